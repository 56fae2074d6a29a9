/- region: Open; croftlaw6: awake. No condition. -/
import Derived.Test.YtippbfnhgooepaaZC1
import Derived.Test.YtippbfnhgooepaaZG4
set_option linter.unusedSimpArgs false
set_option linter.unusedVariables false
namespace Go.Proofs.Ytippbfnhgooepaa
open Go.V Classical

structure OpenR (c : Cfg) (reg : Int) (n m : Nat) (pg : Nat → Nat → Int) (k : Nat) (wn : Nat → Nat) (j : Nat) : Prop where
  r0 : 0 ≤ reg
  r1 : reg ≤ c.limit
  nb : (n : Int) = reg * c.size
  np : (m : Int) = reg * ((2 ^ c.order.toNat : Nat) : Int)
  mo : OpenOk c.order m pg k wn
  hj : (j : Int) = c.order + 1

def ropen (c : Cfg) (r n m : Nat) (g : Nat → Int) (pg : Nat → Nat → Int) (wn : Nat → Nat) (ws : Nat → Nat → Nat) (hd : Nat → Int) : BU :=
  ⟨⟨r, fun o => if o < n then g o else 0⟩, hd, mOpen c.order.toNat m pg wn ws⟩

theorem shl_nat {z : Int} {o : Nat} (ho : o ≤ 8) (h0 : 0 ≤ z) (h1 : z ≤ 1000000) : IntKind.wrap .i64 (z * 2 ^ min (Int.toNat (o : Int)) (IntKind.bits .i64)) = z * ((2 ^ o : Nat) : Int) := by
  have : o = 0 ∨ o = 1 ∨ o = 2 ∨ o = 3 ∨ o = 4 ∨ o = 5 ∨ o = 6 ∨ o = 7 ∨ o = 8 := by omega
  have e : min (Int.toNat (o : Int)) (IntKind.bits .i64) = o := by rw [Int.toNat_natCast]; show min o 64 = o; omega
  rw [e]
  rcases this with rfl | rfl | rfl | rfl | rfl | rfl | rfl | rfl | rfl <;> (rw [IntKind.wrap_i64]; omega)

section
variable {w₀ : World} {h : Heap} {K : Value → Heap → Prop}

theorem region_Open_ok {a b d reg : Int} {bp gp qp hp : Option Addr} {n bc m gc k qc j hc : Nat} {g : Nat → Int} {pg : Nat → Nat → Int} {wp : Nat → Option Addr} {wn wc : Nat → Nat} {ws : Nat → Nat → Nat} {hd : Nat → Int}
    (ha : U64 a) (hn63 : n < 9223372036854775808) (hnb : n ≤ bc) (hm63 : m < 9223372036854775808) (hk63 : k < 9223372036854775808) (hj : j ≤ 1048576)
    (Rb : Row h bp n fun i => .int .u8 (g i)) (hg8 : ∀ i, i < n → 0 ≤ g i ∧ g i < 256) (Rp : Row h gp (m * 11) (pgF pg)) (Rq : PairsIn h qp k wp wn wc ws) (Rh : Row h hp j (headU hd)) (hu : ∀ i, i < j → U64 (hd i))
    (hn : ¬ Cfg.Good ⟨a, b, d⟩ → ∀ h', Upd NoB h h' → K (.tuple #[.pointer none, .int .i64 1]) h')
    (hno : Cfg.Good ⟨a, b, d⟩ → ¬ OpenR ⟨a, b, d⟩ reg n m pg k wn j → ∀ h', Upd NoB h h' → K (.tuple #[.pointer none, .int .i64 7]) h')
    (hg : Cfg.Good ⟨a, b, d⟩ → OpenR ⟨a, b, d⟩ reg n m pg k wn j → ∀ (h' : Heap) (Q : PL), New h h' (plR ⟨a, b, d⟩ Q (ropen ⟨a, b, d⟩ reg.toNat n m g pg wn ws hd)) → K (.tuple #[.pointer (some ⟨Q.pb, 0, none⟩), .int .i64 0]) h') :
    CallV Try.prog w₀ F.region_Open [.agg #[.int .u64 a, .int .i64 b, .int .i64 d], .int .i64 reg, .slice bp n bc, .slice gp m gc, .slice qp k qc, .slice hp j hc] h K := by
  refine region_Open.call ?_
  unfold region_Open.vc
  have N1 := box3 h (.int .u64 a) (.int .i64 b) (.int .i64 d) T.T_api_Config
  generalize Array.push h (.cells #[.int .u64 a, .int .i64 b, .int .i64 d] T.T_api_Config) = h1 at N1 ⊢
  have I1 := (Hold.nil h).new N1
  obtain ⟨k0, k1, k2⟩ := f3_cells (I1.at 0)
  refine ⟨_, k0, _, k1, _, k2, ?_⟩
  refine mem_New_ok ha (fun hb h4 u4 => ⟨_, _, rfl, iT rfl (hn hb h4 (N1.u.nx u4 fun _ e _ => e))⟩) fun gd h4 s u4 hs4 H4 => ⟨_, _, rfl, iF rfl ?_⟩
  have N4 : New h1 h4 (spR s ⟨a, b, d⟩ (fun x => x = s) ⟨0, fun _ => 0⟩) := ⟨u4, H4, fun b e => by have e : b = s := e; omega⟩
  have I4 := I1.new N4
  obtain ⟨k0, k1, k2⟩ := f3_cells (I4.at 1)
  generalize hcc : (⟨a, b, d⟩ : Cfg) = c at *
  have hca : c.base = a := by rw [← hcc]
  have hcb : c.limit = b := by rw [← hcc]
  have hcd : c.order = d := by rw [← hcc]
  have hno := hno gd
  have hg := hg gd
  have o0 := gd.o0
  have o8 := gd.o8
  have l64 := gd.l64
  obtain ⟨on, hon⟩ : ∃ on : Nat, d = on := ⟨d.toNat, by omega⟩
  have hon8 : on ≤ 8 := by omega
  have h8 := pow8 hon8
  have hto : c.order.toNat = on := by rw [hcd, hon]; simp
  have hsz : c.size = 4096 * 2 ^ on := by unfold Cfg.size; rw [hto]
  intro J3 hJ3
  have bad : ∀ h', Upd NoB h h' → ¬ OpenR c reg n m pg k wn j → J3 true h' := fun h' u' hx => hJ3 _ _ fun J4 hJ4 => pT rfl (hJ4 _ _ fun J5 hJ5 => pT rfl (hJ5 _ _ (iT rfl (hno hx h' u'))))
  have u14 : Upd NoB h h4 := N1.u.nx u4 fun _ e _ => e
  by_cases hr0 : reg < 0
  · exact pT (decide_eq_true hr0) (bad h4 u14 fun hx => by have := hx.r0; omega)
  refine pF (decide_eq_false hr0) ⟨_, k1, ?_⟩
  by_cases hr1 : reg > b
  · rw [decide_eq_true hr1]; exact bad h4 u14 fun hx => by have := hx.r1; omega
  rw [decide_eq_false hr1]
  refine hJ3 _ _ fun J4 hJ4 => pF rfl ⟨_, k2, by omega, ?_⟩
  obtain ⟨r, hr⟩ : ∃ r : Nat, reg = r := ⟨reg.toNat, by omega⟩
  subst hr
  have hr64 : r ≤ 64 := by omega
  have e1 : IntKind.wrap .i64 (IntKind.wrap .i64 ((r : Int) * 4096) * 2 ^ min (Int.toNat d) (IntKind.bits .i64)) = ((r * c.size : Nat) : Int) := by
    rw [show IntKind.wrap .i64 ((r : Int) * 4096) = (r : Int) * 4096 by rw [IntKind.wrap_i64]; omega, hon, shl_nat hon8 (by omega) (by omega), hsz]
    simp only [Int.natCast_mul]
    rw [Int.mul_assoc]; rfl
  have e2 : IntKind.wrap .i64 ((r : Int) * 2 ^ min (Int.toNat d) (IntKind.bits .i64)) = ((r * 2 ^ on : Nat) : Int) := by
    rw [hon, shl_nat hon8 (by omega) (by omega), Int.natCast_mul]
  rw [e1]
  by_cases hnb2 : n = r * c.size
  case neg =>
    refine hJ4 _ _ fun J5 hJ5 => pT (ne_b (by omega)) (hJ5 _ _ (iT rfl (hno (fun hx => ?_) h4 u14)))
    have h5 := hx.nb
    exact hnb2 (Int.ofNat_inj.1 (by rw [h5, Int.natCast_mul]))
  refine hJ4 _ _ fun J5 hJ5 => pF (eq_b (by omega)) ⟨_, k2, by omega, ?_⟩
  rw [e2]
  by_cases hnp : m = r * 2 ^ on
  case neg =>
    refine hJ5 _ _ (iT (ne_b (by omega)) (hno (fun hx => ?_) h4 u14))
    have h5 := hx.np
    rw [hto] at h5
    exact hnp (Int.ofNat_inj.1 (by rw [h5, Int.natCast_mul]))
  refine hJ5 _ _ (iF (eq_b (by omega)) ⟨_, k2, ?_⟩)
  have R1 : Row h4 gp (m * 11) (pgF pg) := Rp.upd u14 fun _ _ => id
  refine pm_Open_ok hm63 hk63 R1 (Rq.upd u14) (fun ok h5 mb w N5 => ⟨_, _, rfl, iF rfl ?_⟩) fun nok h5 u5 => ⟨_, _, rfl, iT rfl (hno (fun hx => nok (by have := hx.mo; rw [hcd] at this; exact this)) h5 (u14.nx u5 fun _ e _ => e))⟩
  have I5 := I4.new N5
  have I5 : Hold h h5 [mapR mb (mOpen k m pg wn ws) w, spR s c (fun x => x = s) ⟨0, fun _ => 0⟩, blkR h.size 3 (f3 (.int .u64 a) (.int .i64 b) (.int .i64 d))] := I5
  have hko : k = on := by have := ok.mo; omega
  intro J7 hJ7 L11 hL11
  have last : ∀ (hx : Heap) (Z : Nat → Prop), Hold h hx [mapR mb (mOpen k m pg wn ws) w, spR s c Z ⟨r, fun _ => 0⟩, blkR h.size 3 (f3 (.int .u64 a) (.int .i64 b) (.int .i64 d))] → J7 [.slice bp n bc, .slice hp j hc, .pointer (some ⟨h.size, 0, none⟩), .pointer (some ⟨s, 0, none⟩), .pointer (some ⟨mb, 0, none⟩)] hx := by
    intro hx Z I
    obtain ⟨q0, q1, q2⟩ := f3_cells (I.at 2)
    refine hJ7 _ _ _ _ _ _ _ _ _ _ ⟨_, q0, ?_⟩
    have Rb' : Row hx bp n fun i => .int .u8 (g i) := Rb.upd I.u fun _ _ => id
    have HS : (spR s c Z ⟨r, fun _ => 0⟩).P hx := I.at 1
    have hoff : n = 0 ∨ Off Z bp := Rb.off fun z hz => I.ge _ (List.mem_cons_of_mem _ (List.mem_cons_self ..)) z hz
    have hth : There c r a n := .inr ⟨by rw [hca]; exact Int.le_refl _, by rw [hca]; omega⟩
    refine mem_Write_ok ha (by omega) hnb HS Rb' hg8 hoff (fun _ h7 u7 H7 => ⟨_, rfl, ?_⟩) fun ht => absurd hth ht
    have S7 : Stp hx h7 (spR s c Z ⟨r, fun _ => 0⟩) (spR s c Z ⟨r, fun o => if (a - c.base).toNat ≤ o ∧ o < (a - c.base).toNat + n then g (o - (a - c.base).toNat) else 0⟩) := ⟨u7, H7, fun b e => .inl e⟩
    have I7 := I.step 1 S7
    obtain ⟨q0, q1, q2⟩ := f3_cells (I7.at 2)
    have eM : (fun o => if (a - c.base).toNat ≤ o ∧ o < (a - c.base).toNat + n then g (o - (a - c.base).toNat) else 0) = fun o : Nat => if o < n then g o else 0 := funext fun o => by
      rw [hca, show (a - a).toNat = 0 by omega]
      by_cases ho : o < n
      · rw [if_pos ho, if_pos ⟨by omega, by omega⟩, Nat.sub_zero]
      · rw [if_neg ho, if_neg (by omega)]
    rw [eM] at I7
    refine ⟨_, q0, _, q1, _, q2, ?_⟩
    have Rh' : Row h7 hp j (headU hd) := Rh.upd I7.u fun _ _ => id
    rw [← hca, ← hcb, ← hcd]
    refine bu_Open_ok (c := c) hj ⟨o0, o8⟩ hu Rh' (fun hjn h8 u8 => ⟨_, _, rfl, iT rfl (hno (fun hx => hjn hx.hj) h8 (I7.u.nx u8 fun _ e _ => e))⟩) fun hjy h8 bb lp lc lb N8 => ⟨_, _, rfl, iF rfl ?_⟩
    have I8 := I7.new N8
    have hx : OpenR c r n m pg k wn j := ⟨by omega, by omega, by rw [hnb2, Int.natCast_mul], by rw [hto, hnp, Int.natCast_mul], by rw [hcd]; exact ok, hjy⟩
    have ez : ropen c (Int.toNat (r : Int)) n m g pg wn ws hd = ⟨⟨r, fun o => if o < n then g o else 0⟩, hd, mOpen k m pg wn ws⟩ := by unfold ropen; rw [hto, ← hko, Int.toNat_natCast]
    have J1 : Hold h h8 [bopR c s mb bb lp j lc lb hd, mapR mb (mOpen k m pg wn ws) w, spR s c Z ⟨r, fun o => if o < n then g o else 0⟩] := I8.sub (.cons_cons _ (.cons_cons _ (.cons_cons _ (.cons _ .slnil))))
    obtain ⟨B, f1, f2, f3', J2⟩ := pl_make (x := ⟨⟨r, fun o => if o < n then g o else 0⟩, hd, mOpen k m pg wn ws⟩) (rs := []) (by show j = k + 1; omega) J1
    have N9 := box3 h8 (.pointer (some ⟨s, 0, none⟩)) (.pointer (some ⟨mb, 0, none⟩)) (.pointer (some ⟨bb, 0, none⟩)) T.T_region_Pool
    have J3 := (J2.new N9).join
    refine hg hx _ ⟨h8.size, B⟩ ?_
    have := J3.toNew
    rw [ez]
    unfold plR
    rw [f1, f2, f3']
    exact this
  have loop : ∀ (dd i : Nat) (hx : Heap) (Z : Nat → Prop), i + dd = r → Hold h hx [mapR mb (mOpen k m pg wn ws) w, spR s c Z ⟨i, fun _ => 0⟩, blkR h.size 3 (f3 (.int .u64 a) (.int .i64 b) (.int .i64 d))] →
      L11 [.slice bp n bc, .slice hp j hc, .pointer (some ⟨h.size, 0, none⟩), .pointer (some ⟨s, 0, none⟩), .pointer (some ⟨mb, 0, none⟩), .int .i64 (r : Int), .int .i64 (i : Int)] hx := by
    intro dd
    induction dd with
    | zero =>
      intro i hx Z hi I
      have hi : i = r := by omega
      subst hi
      exact hL11 _ _ _ _ _ _ _ _ _ _ _ _ (iF (decide_eq_false (by omega)) (last hx Z I))
    | succ dd ih =>
      intro i hx Z hi I
      refine hL11 _ _ _ _ _ _ _ _ _ _ _ _ (iT (decide_eq_true (by omega)) ?_)
      refine commit_ok (I.at 1) (by show (i : Int) < c.limit; omega) fun Z' h6 S6 => ⟨_, _, rfl, ?_⟩
      have I6 := I.step 1 S6
      have eg : growS c ⟨i, fun _ => 0⟩ = ⟨i + 1, fun _ => 0⟩ := by unfold growS; simp
      rw [eg] at I6
      rw [show IntKind.wrap .i64 ((i : Int) + 1) = ((i + 1 : Nat) : Int) by rw [IntKind.wrap_i64]; omega]
      exact ih (i + 1) h6 Z' (by omega) I6
  exact loop r 0 h5 _ (by omega) I5

def C6 : Cfg := ⟨65536, 2, 1⟩
theorem C6_good : C6.Good := good_iff.2 (by decide)

theorem awake6_ok (hK : ∀ h', Upd NoB h h' → K (.bool true) h') : CallV Try.prog w₀ F.croftlaw6_awake [] h K := by
  refine croftlaw6_awake.call ?_
  unfold croftlaw6_awake.vc
  have N1 := box3 h (.int .u64 0) (.int .i64 0) (.int .i64 0) T.T_api_Config
  generalize Array.push h (.cells #[.int .u64 0, .int .i64 0, .int .i64 0] T.T_api_Config) = h1 at N1 ⊢
  have I1 := (Hold.nil h).new N1
  obtain ⟨w2, S2⟩ := assign3 (I1.at 0) (.int .u64 65536) (.int .i64 2) (.int .i64 1)
  have I2 := I1.step 0 S2
  refine ⟨w2, ?_⟩
  generalize setCs h1 ⟨h.size, 0, none⟩ 0 [.int .u64 65536, .int .i64 2, .int .i64 1] = h2 at I2 ⊢
  obtain ⟨k0, k1, k2⟩ := f3_cells (I2.at 0)
  refine ⟨_, k0, _, k1, _, k2, ?_⟩
  refine region_New_ok (by unfold U64; omega) (fun hb => absurd C6_good hb) fun g h3 Q N3 => ⟨_, _, rfl, fun J4 hJ4 => pF rfl (hJ4 _ _ fun J5 hJ5 => pF rfl ⟨_, rfl, ?_⟩)⟩
  have I3 := I2.new N3
  have W0 := wi0 g
  have mo : (BU0 ⟨65536, 2, 1⟩).m.o = 1 := bu0_o g
  have mn : (BU0 ⟨65536, 2, 1⟩).m.n = 0 := rfl
  have sn : (BU0 ⟨65536, 2, 1⟩).st.n = 0 := rfl
  generalize BU0 ⟨65536, 2, 1⟩ = x0 at N3 I3 W0 mo mn sn
  have P3 := N3.p
  refine ground_Space_ok P3 ⟨_, rfl, hJ5 _ _ fun J6 hJ6 => pF rfl ⟨_, rfl, ground_Map_ok P3 ⟨_, rfl, hJ6 _ _ fun J7 hJ7 => pF rfl ⟨_, rfl, ground_Buddy_ok P3 ⟨_, rfl, hJ7 _ _ (iF rfl ?_)⟩⟩⟩⟩⟩
  obtain ⟨k0, k1, k2⟩ := f3_cells (I3.at 1)
  refine ⟨_, k0, _, k1, _, k2, ?_⟩
  have N4 := sl_lit h3 #[.slice none 0 0] T.T_sl_uint64 1 1 rfl
  generalize Array.push h3 (.cells #[.slice none 0 0] T.T_sl_uint64) = h4 at N4 ⊢
  have N5 := sl_lit h4 #[.int .u64 0, .int .u64 0] T.T_uint64 2 1 rfl
  generalize Array.push h4 (.cells #[.int .u64 0, .int .u64 0] T.T_uint64) = h5 at N5 ⊢
  have I5 := (I3.new N4).new N5
  have rq := sl_row (I5.at 1)
  have rh := sl_row (I5.at 0)
  refine region_Open_ok (g := fun _ => 0) (pg := fun _ _ => 0) (wp := fun _ => none) (wn := fun _ => 0) (wc := fun _ => 0) (ws := fun _ _ => 0) (hd := fun _ => 0) (by unfold U64; omega) (by decide) (Nat.le_refl _) (by decide) (by decide) (by decide)
    (.inl rfl) (fun i hi => absurd hi (Nat.not_lt_zero _)) (.inl rfl) ⟨rq.congr fun i hi => ?_, fun k _ => .inl rfl, fun k j _ hj => absurd hj (Nat.not_lt_zero _)⟩ (rh.congr fun i hi => ?_) (fun i _ => by unfold U64; omega)
    (fun hb => absurd g hb) (fun _ hx => absurd ?_ hx) fun _ _ h6 Q6 N6 => ⟨_, _, rfl, fun J11 hJ11 => pF rfl (hJ11 _ _ (iF rfl ?_))⟩
  · have : i = 0 := by omega
    subst this; rfl
  · have : i = 0 ∨ i = 1 := by omega
    rcases this with rfl | rfl <;> rfl
  · exact ⟨by decide, by decide, by decide, by decide, ⟨by decide, by decide, by decide, by decide, by decide, fun k hk => by (show 0 = nw (0 / 2 ^ (k + 1)); rw [Nat.zero_div]; decide), fun i hi => absurd hi (Nat.not_lt_zero _)⟩, by decide⟩
  have I6 := I5.quiet N6.u
  have P6 : (plR ⟨65536, 2, 1⟩ Q x0).P h6 := I6.at 2
  refine needP W0 P6 (fun hb => absurd hb (by rw [mo]; decide)) (fun on _ _ j p l _ _ hF => by cases hF) (fun on _ _ _ hor => ?_) fun on eo ho _ _ hl x1 h7 Q7 eq _ W7 o7 n7 s7 _ S7 => ⟨_, _, _, rfl, fun J13 hJ13 => qT rfl (hJ13 _ _ fun J14 hJ14 => qT rfl (hJ14 _ _ fun J15 hJ15 => ?_))⟩
  · rcases hor with e | e
    · cases e
    · rw [sn] at e; exact absurd e (by decide)
  have I7 := I6.step 2 S7
  have P7 : (plR ⟨65536, 2, 1⟩ Q7 x1).P h7 := I7.at 2
  have eadr : (adr ⟨65536, 2, 1⟩ x0.m.n == 65536) = true := by rw [mn]; decide
  refine qT eadr ⟨_, rfl, ?_⟩
  rw [← eq]
  refine ground_Space_ok P7 ⟨_, rfl, mem_Regions_ok (bu_sp (pl_bu P7)) ⟨_, rfl, hJ15 _ _ ?_⟩⟩
  have es : (((x1.st.n : Nat) : Int) == 1) = true := by rw [s7, sn]; rfl
  rw [es]
  exact hK _ I7.u
end
end Go.Proofs.Ytippbfnhgooepaa
