/- croftlaw5: a world that begins; lives. No condition. -/
import Derived.Test.YtnlcmfdmbgnpfaaGreatZBM
set_option linter.unusedSimpArgs false
set_option linter.unusedVariables false
namespace Go.Proofs.YtnlcmfdmbgnpfaaGreat
open Go.V Classical

def C5 : Cfg := ⟨65536, 2, 2⟩
theorem C5_good : C5.Good := good_iff.2 (by decide)
theorem usual5 : usualC 65536 2 2 = C5 := by unfold usualC; split <;> rfl

theorem wi0 {c : Cfg} (g : c.Good) : WI c (BU0 c) (fun _ => []) [] := ⟨rep0 g, by show 0 = 0 * _; omega, g⟩
theorem bu0_o {c : Cfg} (g : c.Good) : (BU0 c).m.o = c.order.toNat := clamp_o g

theorem F5 : hdL C5 (aCut 0 0 (fset (aUp (fun _ => []) 0 2 0) 2 []) 2) 2 = [69632, 73728, 0] := by decide

section
variable {w₀ : World} {h : Heap} {K : Value → Heap → Prop}

theorem beginW {a b d : Int} (ha : U64 a) (hK : ∀ (h' : Heap) (Q : WW), New h h' (wsR (usualC a b d) Q (BU0 (usualC a b d))) → K (.pointer (some ⟨Q.wb, 0, none⟩)) h') :
    CallV Tryz.prog w₀ F.croftlaw5_begin [.agg #[.int .u64 a, .int .i64 b, .int .i64 d]] h K := begin_ok ha hK

theorem uL_lit {h : Heap} {p : Option Addr} {n c : Nat} {f : Nat → Value} {xs : List Int} (H : (slR p n c 1 f).P h) (hn : n = xs.length) (hf : ∀ i, i < xs.length → f i = .int .u64 (xs.getD i 0)) : Row h p xs.length (uL xs) := by
  subst hn
  have := sl_row (sl_congr (g := uL xs) H fun i hi => hf i (by omega))
  rwa [Nat.mul_one] at this

theorem sl_uL {h : Heap} {p : Option Addr} {c : Nat} {xs : List Int} (H : (slR p xs.length c 1 (uL xs)).P h) : Row h p xs.length (uL xs) := by
  have := sl_row H
  rwa [Nat.mul_one] at this

theorem lives_ok (hK : ∀ h', Upd NoB h h' → K (.bool true) h') : CallV Tryz.prog w₀ F.croftlaw5_lives [] h K := by
  refine croftlaw5_lives.call ?_
  unfold croftlaw5_lives.vc
  refine beginW (by unfold U64; omega) fun h1 Q N1 => ⟨_, rfl, iF rfl ?_⟩
  rw [usual5] at N1
  generalize hwb : Q.wb = wb
  obtain ⟨wb0, Wp0, fp0, fn0, fc0, vp0, vc0⟩ := Q
  have hwb : wb0 = wb := hwb
  subst hwb
  have g := C5_good
  have W0 := wi0 g
  have mo : (BU0 C5).m.o = 2 := bu0_o g
  have mn : (BU0 C5).m.n = 0 := rfl
  have sn : (BU0 C5).st.n = 0 := rfl
  generalize BU0 C5 = x0 at N1 W0 mo mn sn
  have I1 := (Hold.nil h).new N1
  refine ⟨_, rfl, _, wd_cell (I1.at 0) (i := 5) (by omega), ?_⟩
  refine takeW (o := 0) W0 (I1.at 0) (by omega) (fun _ h2 S2 => ⟨_, _, rfl, fun J3 hJ3 => pF rfl (hJ3 _ _ fun J4 hJ4 => ?_)⟩) fun j p l _ _ hF => by cases hF
  have I2 := I1.step 0 S2
  refine pF rfl ⟨_, rfl, _, wd_cell (I2.at 0) (i := 5) (by omega), ?_⟩
  refine feedN W0 (I2.at 0) (fun b hb => by cases hb) fun h3 S3 => ⟨_, rfl, hJ4 _ _ fun J5 hJ5 => ?_⟩
  have I3 := I2.step 0 S3
  refine pF rfl ?_
  have hlim : (x0.st.n : Int) < C5.limit := by rw [sn]; decide
  have H3 : (wsR C5 ⟨wb0, Wp0, fp0, fn0, fc0, vp0, vc0⟩ x0).P h3 := I3.at 0
  refine comeW (fl := fun _ => []) (L := []) (Q := ⟨wb0, Wp0, fp0, fn0, fc0, vp0, vc0⟩) W0 H3 hlim fun x1 h4 Q1 eQ W1 eo en es _ S4 => ⟨_, rfl, hJ5 _ _ fun J6 hJ6 => ?_⟩
  have I4 := I3.step 0 S4
  have e1 : x1.m.n - 2 ^ x1.m.o = 0 := by rw [en, eo, mn, Nat.zero_add, Nat.sub_self]
  obtain ⟨wb1, Wp, fp1, fn1, fc1, vp1, vc1⟩ := Q1
  have eQ : wb1 = wb0 := eQ
  subst eQ
  refine pF rfl ⟨_, rfl, _, wd_cell (I4.at 0) (i := 5) (by omega), ?_⟩
  refine feedW W1 (I4.at 0) (by omega) (L' := []) (by rw [e1, eo, mn]) fun x2 h5 W2 M2 S5 => ⟨_, rfl, hJ6 _ _ fun J7 hJ7 => ?_⟩
  have I5 := I4.step 0 S5
  refine pF rfl ⟨_, rfl, _, wd_cell (I5.at 0) (i := 5) (by omega), ?_⟩
  refine feedN W2 (I5.at 0) (fun b hb => by cases hb) fun h6 S6 => ⟨_, rfl, hJ7 _ _ (iF rfl ?_)⟩
  have I6 := I5.step 0 S6
  have o2 : x2.m.o = 2 := by rw [M2.o, eo, mo]
  rw [e1, eo, mo] at W2
  refine ⟨_, rfl, _, wd_cell (I6.at 0) (i := 5) (by omega), ?_⟩
  have f2 : ∀ j, j ≠ 2 → aUp (fun _ => []) 0 2 0 j = [] := fun j hj => by show fset _ 2 _ j = []; rw [fset_ne _ _ hj]
  have f2' : aUp (fun _ => []) 0 2 0 2 = [0] := by decide
  refine takeW (o := 0) W2 (I6.at 0) (by omega) (fun hF => ?_) fun j p l _ hj hF _ x3 h7 W3 M3 S7 => ?_
  · have := hF 2 (by omega) (by omega)
    rw [f2'] at this; cases this
  have hj2 : j = 2 := Classical.byContradiction fun hne => by rw [f2 j hne] at hF; cases hF
  subst hj2
  rw [f2'] at hF
  cases hF
  have I7 := I6.step 0 S7
  have o3 : x3.m.o = 2 := by rw [M3.o, o2]
  have hF5 : hdL C5 (aCut 0 0 (fset (aUp (fun _ => []) 0 2 0) 2 []) (2 - 0)) x3.m.o = [69632, 73728, 0] := by rw [o3]; exact F5
  have hb := wd_bu (I7.at 0)
  refine ⟨_, _, rfl, _, rfl, _, wd_c0 (I7.at 0), _, wd_cell (I7.at 0) (i := 1) (by omega), _, wd_cell (I7.at 0) (i := 2) (by omega), _, rfl, _, wd_cell (I7.at 0) (i := 3) (by omega), _, rfl, _, wd_cell (I7.at 0) (i := 4) (by omega), _, rfl, _, wd_cell (I7.at 0) (i := 5) (by omega), ?_⟩
  refine headsW W3 (I7.at 0) fun h8 p8 c8 N8 => ?_
  rw [hF5] at N8 ⊢
  have I8 := I7.new N8
  refine ⟨_, _, _, rfl, wd_cell (I8.at 1) (i := 4) (by omega), wd_cell (I8.at 1) (i := 3) (by omega), wd_c0 (I8.at 1), wd_cell (I8.at 1) (i := 1) (by omega), wd_cell (I8.at 1) (i := 2) (by omega), ?_⟩
  refine bu_Open_ok (c := C5) (hd := fun i => ([69632, 73728, 0] : List Int).getD i 0) (by decide) (by decide) (fun i hi => ?_) (sl_uL (I8.at 0)) (fun hc => absurd (by decide) hc) fun _ h9 bb lp lc lb N9 => ⟨_, _, rfl, fun J11 hJ11 => qT rfl (hJ11 _ _ fun J12 hJ12 => ?_)⟩
  · have hi : i < 3 := hi
    have : i = 0 ∨ i = 1 ∨ i = 2 := by omega
    rcases this with rfl | rfl | rfl <;> simp [U64]
  have I9 := I8.new N9
  refine qT rfl ⟨_, rfl, _, wd_cell (I9.at 2) (i := 5) (by omega), ?_⟩
  have next : ∀ hx, Upd NoB h9 hx → J12 (decide (([69632, 73728, 0] : List Int) = [69632, 73728, 0])) hx := fun hx ux => by
    have Ix := I9.quiet ux
    refine hJ12 _ _ fun J13 hJ13 => qT (decide_eq_true rfl) (hJ13 _ _ fun J14 hJ14 => qT rfl (hJ14 _ _ fun J15 hJ15 => qT rfl ⟨_, rfl, _, wd_cell (Ix.at 2) (i := 5) (by omega), ?_⟩))
    refine bu_Heads_ok (n := ([69632, 73728, 0] : List Int).length) (by decide) (Ix.at 0) fun h10 p10 c10 _ N10 => ⟨_, _, _, rfl, ?_⟩
    have I10 := Ix.new N10
    refine ⟨wd_cell (I10.at 3) (i := 5) (by omega), headsW W3 (I10.at 3) fun h11 p11 c11 N11 => ?_⟩
    rw [hF5] at N11 ⊢
    have I11 := I10.new N11
    refine ⟨_, _, _, rfl, ints_ok (xs := [69632, 73728, 0]) (ys := [69632, 73728, 0]) (by decide) (sl_uL (I11.at 1)) (sl_uL (I11.at 0)) ⟨_, rfl, hJ15 _ _ ?_⟩⟩
    rw [decide_eq_true rfl]
    exact hK _ I11.u
  refine ⟨?_, ?_⟩
  · refine headsW W3 (I9.at 2) fun h10 p10 c10 N10 => ?_
    rw [hF5] at N10 ⊢
    have I10 := I9.new N10
    have N11 := sl_lit h10 #[.int .u64 69632, .int .u64 73728, .int .u64 0] T.T_uint64 3 1 rfl
    generalize Array.push h10 (.cells #[.int .u64 69632, .int .u64 73728, .int .u64 0] T.T_uint64) = h11 at N11 ⊢
    have I11 := I10.new N11
    refine ⟨_, _, _, rfl, wd_cell (I11.at 4) (i := 5) (by omega), ints_ok (xs := [69632, 73728, 0]) (ys := [69632, 73728, 0]) (by decide) (sl_uL (I11.at 1)) (uL_lit (I11.at 0) rfl fun i hi => ?_) ⟨_, rfl, next _ (N10.u.nx N11.u fun _ e _ => e)⟩⟩
    have hi : i < 3 := hi
    have : i = 0 ∨ i = 1 ∨ i = 2 := by omega
    rcases this with rfl | rfl | rfl <;> rfl
  · have N11 := sl_lit h9 #[.int .u64 69632, .int .u64 73728, .int .u64 0] T.T_uint64 3 1 rfl
    generalize Array.push h9 (.cells #[.int .u64 69632, .int .u64 73728, .int .u64 0] T.T_uint64) = h10 at N11 ⊢
    have I10 := I9.new N11
    refine ⟨wd_cell (I10.at 3) (i := 5) (by omega), headsW W3 (I10.at 3) fun h11 p11 c11 N12 => ?_⟩
    rw [hF5] at N12 ⊢
    have I11 := I10.new N12
    refine ⟨_, _, _, rfl, ints_ok (xs := [69632, 73728, 0]) (ys := [69632, 73728, 0]) (by decide) (sl_uL (I11.at 0)) (uL_lit (I11.at 1) rfl fun i hi => ?_) ⟨_, rfl, next _ (N11.u.nx N12.u fun _ e _ => e)⟩⟩
    have hi : i < 3 := hi
    have : i = 0 ∨ i = 1 ∨ i = 2 := by omega
    rcases this with rfl | rfl | rfl <;> rfl
end
end Go.Proofs.YtnlcmfdmbgnpfaaGreat
