/- croftlaw7: got, gone. No condition. -/
import Derived.Test.YteemmpkhdllapaaDoorZEF
import Derived.Test.YteemmpkhdllapaaDoorZGcroftlaw7worldgot
set_option linter.unusedSimpArgs false
set_option linter.unusedVariables false
namespace Go.Proofs.YteemmpkhdllapaaDoor
open Go.V Classical

theorem andnot12 {x : Nat} (hx : x < 2 ^ 64) : (BitVec.ofInt 64 (x : Int) &&& ~~~ (BitVec.ofInt 64 (4095 : Int))).toNat = x / 4096 * 4096 := by
  have h0 : BitVec.ofInt 64 (4095 : Int) = BitVec.ofNat 64 4095 := rfl
  rw [ofInt_nat, h0]
  apply Nat.eq_of_testBit_eq
  intro i
  have e1 : (BitVec.ofNat 64 x &&& ~~~ BitVec.ofNat 64 4095).toNat.testBit i = (BitVec.ofNat 64 x &&& ~~~ BitVec.ofNat 64 4095).getLsbD i := rfl
  have e2 : (4095 : Nat) = 2 ^ 12 - 1 := by decide
  have e3 : x / 4096 * 4096 = 2 ^ 12 * (x / 2 ^ 12) := by rw [Nat.mul_comm]
  rw [e1, BitVec.getLsbD_and, BitVec.getLsbD_not, BitVec.getLsbD_ofNat, BitVec.getLsbD_ofNat, e2, Nat.testBit_two_pow_sub_one, e3, Nat.testBit_two_pow_mul, Nat.testBit_div_two_pow]
  by_cases h64 : i < 64
  · by_cases h12 : i < 12
    · simp [h64, h12]; omega
    · have : 12 ≤ i := by omega
      simp [h64, h12, this]
  · have : x.testBit i = false := Nat.testBit_lt_two_pow (Nat.lt_of_lt_of_le hx (Nat.pow_le_pow_right (by omega) (by omega)))
    simp [h64]
    intro h12
    rw [show i - 12 + 12 = i by omega]; exact this

theorem page_of {b0 : Int} {a : Nat} (hb : 0 ≤ b0 ∧ b0 ≤ 9223372036854775808) (h4 : b0 % 4096 = 0) (ha : a ≤ 8388608) :
    IntKind.wrap .u64 (((BitVec.ofInt (IntKind.bits .u64) (b0 + (a : Int)) &&& ~~~ (BitVec.ofInt (IntKind.bits .u64) (4095 : Int))).toNat : Int)) = b0 + ((4096 * (a / 4096) : Nat) : Int) := by
  obtain ⟨y, hy⟩ : ∃ y : Nat, b0 + (a : Int) = y := ⟨(b0 + (a : Int)).toNat, by omega⟩
  rw [hy]
  have := andnot12 (x := y) (by omega)
  rw [show (BitVec.ofInt (IntKind.bits .u64) (y : Int) &&& ~~~ (BitVec.ofInt (IntKind.bits .u64) (4095 : Int))).toNat = y / 4096 * 4096 from this]
  rw [wU (by unfold U64; omega)]
  omega

theorem base4 {c : Cfg} (g : c.Good) : c.base % 4096 = 0 := by
  have := g.al
  have hd : (4096 : Int) ∣ c.size := ⟨((2 ^ c.order.toNat : Nat) : Int), by unfold Cfg.size; simp⟩
  exact Int.emod_eq_zero_of_dvd (Int.dvd_trans hd (Int.dvd_of_emod_eq_zero this))

section
variable {w₀ : World} {h : Heap} {c : Cfg} {wb : Nat} {d : List Value} {Q : SL} {x : BU} {hp : Nat → Int} {K : Value → Heap → Prop} {l : List CE} {sp : Option Addr} {cap : Nat}

theorem meets7_ok' {a n : Nat} {z : Int} (en : z = (n : Int)) (D : BdE c.base l) (R : Row h sp (l.length * 3) (ceV c.base l)) (ha : a ≤ 8388608) (hn : n ≤ 8388608) (hK : K (.bool (meetsE l a n)) h) :
    CallV Tryd.prog w₀ F.croftlaw7_meets [.slice sp l.length cap, .int .u64 (c.base + (a : Int)), .int .u64 z] h K := by
  subst en; exact meets7_ok D R ha hn hK

theorem got_no {r reg : Int} {deny : Bool} (H : (w7R c wb d Q x hp).P h) (hreg : reg = x.st.n) (hd : deny = true ∨ (x.st.n : Int) = c.limit) (hK : K (.tuple #[.slice sp l.length cap, .bool true]) h) :
    CallV Tryd.prog w₀ F.croftlaw7_world_got [gptr wb, .slice sp l.length cap, .int .u64 r, .bool deny, .int .u64 0, .bool false, .int .i64 2, .int .i64 reg, .bool true] h K := by
  refine croftlaw7_world_got.call ?_
  unfold croftlaw7_world_got.vc
  intro J1 hJ1
  have main : J1 true h := by
    refine hJ1 _ _ (iT rfl fun J2 hJ2 => qT rfl (hJ2 _ _ fun J3 hJ3 => qT rfl (hJ3 _ _ fun J4 hJ4 => qT rfl (hJ4 _ _ fun J5 hJ5 => qT rfl ⟨_, rfl, _, w_c3 H, _, rfl, ground_Space_ok (s_pl (w_s H)) ⟨_, rfl, mem_Regions_ok (s_sp (w_s H)) ⟨_, rfl, hJ5 _ _ ?_⟩⟩⟩))))
    rw [beq_iff_eq.2 hreg.symm]
    exact hK
  refine ⟨fun _ J28 hJ28 => ⟨fun hd0 => ⟨_, rfl, _, w_c1 H, hJ28 _ _ ?_⟩, fun _ => hJ28 _ _ main⟩, fun e => by cases e⟩
  have : reg = c.limit := by
    rcases hd with hd | hd
    · rw [hd] at hd0; cases hd0
    · omega
  rw [beq_iff_eq.2 this]
  exact main

theorem got_yes {a r : Nat} {reg : Int} {deny b : Bool} (W : KI c x) (H : (w7R c wb d Q x hp).P h) (D : BdE c.base l) (hl2 : l.length ≤ 1048575) (R : Row h sp (l.length * 3) (ceV c.base l))
    (hs : b = true → deny = false ∧ reg ≠ c.limit) (hreg : (x.st.n : Int) = reg + (if b then 1 else 0)) (hr0 : 0 < r) (hdv : (c.base + (a : Int)) % (r : Int) = 0) (hin : a + r ≤ 4096 * x.m.n) (hm : meetsE l a r = false)
    (hpg : r < 4096 → meetsE l (4096 * (a / 4096)) 4096 = true → 0 < cntE l (4096 * (a / 4096)) r)
    (hK : ∀ h' p' c' m, 0 ≤ m ∧ m < 256 → New h h' (bkR p' c' c.base (l ++ [(⟨a, r, m⟩ : CE)])) → K (.tuple #[.slice p' (l ++ [(⟨a, r, m⟩ : CE)]).length c', .bool true]) h') :
    CallV Tryd.prog w₀ F.croftlaw7_world_got [gptr wb, .slice sp l.length cap, .int .u64 (r : Int), .bool deny, .int .u64 (c.base + (a : Int)), .bool b, .int .i64 0, .int .i64 reg, .bool b] h K := by
  refine croftlaw7_world_got.call ?_
  unfold croftlaw7_world_got.vc
  intro J1 hJ1
  have hb := bu_bounds W.g W.ok.m
  have n1 := W.ok.m.n1
  have hb4 := base4 W.g
  have nr : x.st.n ≤ 1024 := by
    have h5 : x.st.n * 1 ≤ x.st.n * 2 ^ x.m.o := Nat.mul_le_mul_left _ (Nat.one_le_two_pow)
    have := W.e
    omega
  have main : J1 false h := by
    refine hJ1 _ _ (iF rfl fun J8 hJ8 => ?_)
    have go : ∀ more : Int, more = (if b then 1 else 0) → J8 [gptr wb, .slice sp l.length cap, .int .u64 (r : Int), .int .u64 (c.base + (a : Int)), .bool b, .int .i64 reg, .bool b, .bool false, .int .i64 more] h := by
      intro more hmore
      refine hJ8 _ _ _ _ _ _ _ _ _ _ _ _ fun J9 hJ9 => pF rfl (hJ9 _ _ fun J10 hJ10 => ?_)
      have e0 : (!(b == b)) = false := by simp
      rw [e0]
      refine pF rfl ⟨_, rfl, _, w_c3 H, _, rfl, ground_Space_ok (s_pl (w_s H)) ⟨_, rfl, mem_Regions_ok (s_sp (w_s H)) ⟨_, rfl, hJ10 _ _ fun J11 hJ11 => ?_⟩⟩⟩
      have e1 : IntKind.wrap .i64 (reg + more) = (x.st.n : Int) := by rw [hmore, ← hreg, wI (by unfold bd63; omega)]
      rw [e1]
      refine pF (eq_b rfl) ⟨_, rfl, _, w_c0 H, hJ11 _ _ fun J12 hJ12 => pF (decide_eq_false (by omega)) ⟨by omega, hJ12 _ _ fun J13 hJ13 => ?_⟩⟩
      have e2 : Int.tmod (c.base + (a : Int)) (r : Int) = 0 := by rw [Int.tmod_eq_emod_of_nonneg (by omega), hdv]
      rw [e2]
      refine pF rfl ⟨_, rfl, _, w_c3 H, _, rfl, ground_Space_ok (s_pl (w_s H)) ⟨_, rfl, w_end W H ⟨_, rfl, hJ13 _ _ fun J14 hJ14 => ?_⟩⟩⟩
      have e3 : IntKind.wrap .u64 (c.base + (a : Int) + (r : Int)) = c.base + ((a + r : Nat) : Int) := by rw [wU (by unfold U64; omega)]; omega
      rw [e3]
      refine pF (decide_eq_false (by omega)) (meets7_ok D R (by omega) (by omega) ⟨_, rfl, hJ14 _ _ ?_⟩)
      rw [hm]
      refine iF rfl fun J15 hJ15 => ?_
      have tail : ∀ m : Int, 0 ≤ m ∧ m < 256 → ∃ os139 xs139 : List Value, AppPre (Array.push h (.cells #[] T.T_croftlaw7_block)) (some (⟨h.size, 0, none⟩ : Addr)) 0 0 sp l.length 3 24 os139 xs139 ∧ ∀ (p139 : Option Addr) (c139 : Nat) (h139 : Heap), AppRes (Array.push h (.cells #[] T.T_croftlaw7_block)) (some (⟨h.size, 0, none⟩ : Addr)) 0 0 l.length [(.int .u64 (0 : Int)), (.int .u64 (0 : Int)), (.int .u8 (0 : Int))] T.T_croftlaw7_block os139 xs139 p139 c139 h139 →
          ((0 : Int) ≤ (4 : Int) ∧ ∃ os152 xs152 : List Value, AppPre (Array.push h139 (.cells #[.int .u64 (c.base + (a : Int)), .int .u64 (r : Int), .int .u8 m] T.T_croftlaw7_block)) p139 (0 + l.length) c139 (some (⟨h139.size, 0, none⟩ : Addr)) 1 3 24 os152 xs152 ∧ ∀ (p152 : Option Addr) (c152 : Nat) (h152 : Heap),
            AppRes (Array.push h139 (.cells #[.int .u64 (c.base + (a : Int)), .int .u64 (r : Int), .int .u8 m] T.T_croftlaw7_block)) p139 (0 + l.length) c139 1 [(.int .u64 (0 : Int)), (.int .u64 (0 : Int)), (.int .u8 (0 : Int))] T.T_croftlaw7_block os152 xs152 p152 c152 h152 → K (.tuple #[.slice p152 ((0 + l.length) + 1) c152, .bool true]) h152) := by
        intro m hmm
        have N7 := sl_lit h #[] T.T_croftlaw7_block 0 3 rfl
        have I7 := (Hold.nil h).new N7
        obtain ⟨os, q1, q2⟩ := copy7_ok (b0 := c.base) (l := l) D.l (I7.at 0) (R.upd I7.u fun _ _ => id)
        refine ⟨os, _, q1, fun p1 c1 h8 hres => ⟨by decide, ?_⟩⟩
        have I8 := I7.step 0 (q2 p1 c1 h8 hres)
        have N9 := box_l h8 [.int .u64 (c.base + (a : Int)), .int .u64 (r : Int), .int .u8 m] T.T_croftlaw7_block
        have I9 := I8.new N9
        obtain ⟨os', q3, q4⟩ := add7_ok (b0 := c.base) (l := l) (n := 0 + l.length) (b := ⟨a, r, m⟩) (Nat.zero_add _) (by omega) (I9.at 1) (row_l3 (b := ⟨a, r, m⟩) (I9.at 0))
        refine ⟨os', _, q3, fun p2 c2 h10 hres2 => ?_⟩
        have I10 := I9.step 1 (q4 p2 c2 h10 hres2)
        have el : (l ++ [(⟨a, r, m⟩ : CE)]).length = 0 + l.length + 1 := by simp
        have := hK h10 p2 c2 m hmm (by
          unfold bkR
          rw [el, Nat.zero_add]
          exact (I10.sub (rs' := [slR p2 (l.length + 1) c2 3 (ceV c.base (l ++ [⟨a, r, m⟩]))]) (.cons _ (.cons_cons _ .slnil))).toNew)
        rw [el] at this
        exact this
      have mk : ∀ z : Int, 0 ≤ IntKind.wrap .u8 z ∧ IntKind.wrap .u8 z < 256 := fun z => by rw [IntKind.wrap_u8]; omega
      by_cases h4 : r < 4096
      · refine qT (decide_eq_true (by omega)) ?_
        have epg := page_of (b0 := c.base) (a := a) ⟨by omega, by omega⟩ hb4 (by omega)
        rw [epg] at hJ15 ⊢
        refine meets7_ok' (n := 4096) (by omega) D R (by omega) (by omega) ⟨_, rfl, hJ15 _ _ fun J16 hJ16 => ?_⟩
        cases hmm : meetsE l (4096 * (a / 4096)) 4096 with
        | true =>
          have hc := hpg h4 hmm
          have hpos : 0 < cntE l (4096 * (a / 4096)) r * r := Nat.mul_pos hc hr0
          have hf : (((cntE l (4096 * (a / 4096)) r * r : Nat) : Int) == (0 : Int)) = false := beq_eq_false_iff_ne.2 (by omega)
          generalize hC : cntE l (4096 * (a / 4096)) r * r = C at hf
          refine qT rfl ?_
          refine covered_ok (a := 4096 * (a / 4096)) (n := r) D (by omega) R (by omega) (by omega) ?_
          refine ⟨_, rfl, hJ16 _ _ (iF ?_ (tail _ (mk _)))⟩
          rw [hC]; exact hf
        | false => exact qF' rfl (hJ16 _ _ (iF rfl (tail _ (mk _))))
      · exact qF' (decide_eq_false (by omega)) (hJ15 _ _ fun J16 hJ16 => qF' rfl (hJ16 _ _ (iF rfl (tail _ (mk _)))))
    cases b with
    | true => exact iT rfl (go 1 rfl)
    | false => exact iF rfl (go 0 rfl)
  cases b with
  | false => exact qF' rfl main
  | true =>
    obtain ⟨hd, hne⟩ := hs rfl
    subst hd
    exact qT rfl fun J28 hJ28 => pF rfl ⟨_, rfl, _, w_c1 H, hJ28 _ _ (by rw [beq_eq_false_iff_ne.2 hne]; exact main)⟩
end
end Go.Proofs.YteemmpkhdllapaaDoor
