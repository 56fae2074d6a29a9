/- croftlaw7: scripts of deeds; SlabExactly. No condition. -/
import Derived.Test.YteemmpkhdllapaaDoorZEI
import Derived.Test.YteemmpkhdllapaaDoorZED
set_option linter.unusedSimpArgs false
set_option linter.unusedVariables false
namespace Go.Proofs.YteemmpkhdllapaaDoor
open Go.V Classical

theorem dd7_at {h : Heap} {p : Option Addr} {n c i : Nat} (R : HRow h dd7Ty 4 p n c) (hi : i < n) : ∃ (ad : Addr) (z0 z1 z2 : Int) (z3 : Bool), p = some ad ∧ bd63 z1 ∧ bd63 z2 ∧ ∀ hx, Upd NoB h hx →
    cellAt hx (ad.add (Int.toNat (i : Int) * 4)) = some (.int .i64 z0) ∧ cellAt hx ((ad.add (Int.toNat (i : Int) * 4)).add 1) = some (.int .i64 z1) ∧ cellAt hx ((ad.add (Int.toNat (i : Int) * 4)).add 2) = some (.int .i64 z2) ∧ cellAt hx ((ad.add (Int.toNat (i : Int) * 4)).add 3) = some (.bool z3) := by
  obtain ⟨_, _, hr⟩ := R
  rcases hr with hr | ⟨b0, off, rfl, hr⟩
  · omega
  obtain ⟨v0, c0, z0, rfl, w0⟩ := hr i hi 0 (by omega)
  obtain ⟨v1, c1, z1, rfl, w1⟩ := hr i hi 1 (by omega)
  obtain ⟨v2, c2, z2, rfl, w2⟩ := hr i hi 2 (by omega)
  obtain ⟨v3, c3, z3, rfl⟩ := hr i hi 3 (by omega)
  refine ⟨_, z0, z1, z2, z3, rfl, wf_bd63 w1, wf_bd63 w2, fun hx u => ?_⟩
  have up : ∀ {j : Nat} {v : Value}, cellAt h ⟨b0, off + i * 4 + j, none⟩ = some v → cellAt hx ⟨b0, off + i * 4 + j, none⟩ = some v := fun e => cellAt_upd e u id
  refine ⟨?_, ?_, ?_, ?_⟩
  · rw [add_mk, Int.toNat_natCast]; exact up c0
  · rw [add_mk, add_mk, Int.toNat_natCast]; exact up c1
  · rw [add_mk, add_mk, Int.toNat_natCast]; exact up c2
  · rw [add_mk, add_mk, Int.toNat_natCast]; exact up c3

theorem book0 : Book [] noS [] (fun _ => 0) (fun _ => []) := by
  refine ⟨fun a n => ⟨?_, fun ⟨e, he, _⟩ => by cases he⟩, .nil, fun q h => h.elim⟩
  rintro (⟨q, k, hL, _⟩ | ⟨q, j, hS, _⟩)
  · cases hL
  · exact hS.elim

theorem bk_nil {h0 h : Heap} {A : Res} {rs : List Res} {b0 : Int} (I : Hold h0 h (A :: rs)) : Hold h0 h (andR A (bkR none 0 b0 []) :: rs) :=
  (I.new (R := bkR none 0 b0 []) ⟨Upd.refl _ _, sl_nil _ _ _, fun b e => absurd e (sl_nil_fp b)⟩).swap.join

theorem leftE_nil (O : Nat) : ∀ r, leftE O [] r = 0
  | 0 => rfl
  | r + 1 => by
    unfold leftE
    rw [if_pos (by rfl)]
    exact leftE_nil O r

theorem SlabExactly_law {w : World} {a b d : Int} {p : Option Addr} {n cp : Nat} (T0 : Tab w.heap) (ha : (Lit.int .u64 a).wf = true) (hb : (Lit.int .i64 b).wf = true) (hd : (Lit.int .i64 d).wf = true) (hs : HRow w.heap dd7Ty 4 p n cp) :
    CallV Tryd.prog w F.croftlaw7_SlabExactly [.agg #[.int .u64 a, .int .i64 b, .int .i64 d], .slice p n cp] w.heap fun v h' => v = .bool true ∧ Upd NoB w.heap h' := by
  have hn := hs.1
  have hc := hs.2.1
  have hfin : ∀ h', Upd NoB w.heap h' → (fun (r : Value) (h' : Heap) => r = Value.bool true ∧ Upd NoB w.heap h') (.bool true) h' := fun h' u => ⟨rfl, u⟩
  generalize (fun (r : Value) (h' : Heap) => r = Value.bool true ∧ Upd NoB w.heap h') = K at hfin ⊢
  refine croftlaw7_SlabExactly.call ?_
  unfold croftlaw7_SlabExactly.vc
  have N0 := box_l w.heap [.int .u64 a, .int .i64 b, .int .i64 d] T.T_api_Config
  generalize Array.push w.heap (.cells #[.int .u64 a, .int .i64 b, .int .i64 d] T.T_api_Config) = h0 at N0 ⊢
  have I0 := (Hold.nil w.heap).new N0
  have B0 := I0.at 0
  refine ⟨_, cell_l0 B0, _, cell_l B0 1, _, cell_l B0 2, beginX (wf_u64 ha) fun h1 wb Q1 dl hl N1 => ⟨_, rfl, fun J3 hJ3 => pF rfl ?_⟩⟩
  have g5 := usual7_good a b d
  have W0 : SI (usual7 a b d) (BU0 (usual7 a b d)) (fun _ => -1) noS (fun _ => []) [] (fun _ => 0) (fun _ => []) (fun _ => []) := si0 g5 (fun _ => 0) (fun _ => [])
  generalize usual7 a b d = c at N1 g5 W0
  generalize BU0 c = x0 at N1 W0
  have I1 := I0.new N1
  refine lives7_ok (T0.upd I1.u id) fun h2 u2 => ⟨_, rfl, hJ3 _ _ (iF rfl fun J4 hJ4 L12 hL12 => ?_)⟩
  have I2 := I1.quiet u2
  have I2 : Hold w.heap h2 [w7R c wb dl Q1 x0 fun _ => -1] := I2.sub (.cons_cons _ (.cons _ .slnil))
  have I3 := bk_nil (b0 := c.base) I2
  -- all goes back
  have last : ∀ (hx : Heap) (Q : SL) (x : BU) (hp : Nat → Int) (S : Nat → Prop) (fl : Nat → List Nat) (L : List PBk) (cl : Nat → Nat) (fr pl : Nat → List Nat) (l : List CE) (bp : Option Addr) (bc : Nat), l.length ≤ 1000 → SI c x hp S fl L cl fr pl → Book l S L cl fr →
      Hold w.heap hx [wkR c wb dl Q x hp bp bc l] → J4 [gptr wb, .slice bp l.length bc] hx := by
    intro hx Q x hp S fl L cl fr pl l bp bc hl W B I
    refine hJ4 _ _ _ _ _ fun J5 hJ5 L9 hL9 => ?_
    have loop : ∀ (k : Nat) (hx : Heap) (x : BU) (hp : Nat → Int) (S : Nat → Prop) (fl : Nat → List Nat) (L : List PBk) (fr pl : Nat → List Nat) (l : List CE) (bp : Option Addr) (bc : Nat), l.length = k → k ≤ 1000 → SI c x hp S fl L cl fr pl → Book l S L cl fr →
        Hold w.heap hx [wkR c wb dl Q x hp bp bc l] → L9 [gptr wb, .slice bp l.length bc] hx := by
      intro k
      induction k with
      | zero =>
        intro hx x hp S fl L fr pl l bp bc hlk hk W B I
        have hl0 : l = [] := List.eq_nil_of_length_eq_zero hlk
        subst hl0
        have H : (w7R c wb dl Q x hp).P hx := (I.split).at 0
        refine hL9 _ _ _ _ _ (iF (decide_eq_false (by simp)) (hJ5 _ _ ⟨_, rfl, _, w_c3 H, trimX W H fun x1 fl1 Q1 h1 hQ1 htr I1 o1 hle K1 S1 => ⟨_, rfl, ?_⟩⟩))
        have e1 := trimF_leftE (l := []) x.st.n fl fun i hi => reg_free7 W B hi
        rw [htr, leftE_nil] at e1
        simp only [] at e1
        have J1 := (I.split).step 0 S1
        have H1 := J1.at 0
        refine ⟨_, rfl, _, w_c3 H1, _, rfl, ground_Space_ok (s_pl (w_s H1)) ⟨_, rfl, mem_Regions_ok (s_sp (w_s H1)) ⟨_, rfl, ?_⟩⟩⟩
        rw [e1]
        exact hfin _ J1.u
      | succ k ih =>
        intro hx x hp S fl L fr pl l bp bc hlk hk W B I
        have J := (Go.V.Own.of (I.at 0)).split
        have H : (w7R c wb dl Q x hp).P hx := J.at 0
        have TT := TabH.of T0 I 0
        have ei : IntKind.wrap .i64 ((l.length : Int) - 1) = (k : Int) := by rw [IntKind.wrap_i64]; omega
        have he : l[k]? = some (l.getD k ce0) := by rw [List.getD_eq_getElem?_getD, List.getElem?_eq_getElem (by omega)]; rfl
        obtain ⟨ad, e1, r1, r2, r3⟩ := row_ce (sl_row (J.at 1)) (i := k) (by omega)
        refine hL9 _ _ _ _ _ (iT (decide_eq_true (by omega)) ⟨ad, e1, ?_⟩)
        rw [ei]
        refine ⟨by omega, by omega, _, r1, _, r2, _, r3, gone_ok W B (TT.at J 0) H he fun x1 hp1 S1 fl1 L1 fr1 pl1 h1 W1 B1 n1' o1' s1' hM St1 => ⟨_, rfl, iF rfl ?_⟩⟩
        have J1 := J.step 0 St1
        refine without7_ok (l := l) (i := k) (by omega) (sl_row (J1.at 1)) fun h2 p2 c2 N2 => ⟨_, _, _, rfl, ?_⟩
        have J2 := J1.new N2
        have hle : (l.eraseIdx k).length = k := by rw [List.length_eraseIdx, if_pos (by omega)]; omega
        exact ih h2 x1 hp1 S1 fl1 L1 fr1 pl1 _ p2 c2 hle (by omega) W1 B1 (I.step 0 (J2.two 1 0))
    exact loop l.length hx x hp S fl L fr pl l bp bc rfl hl W B I
  have loop : ∀ (k i : Nat) (hx : Heap) (Q : SL) (x : BU) (hp : Nat → Int) (S : Nat → Prop) (fl : Nat → List Nat) (L : List PBk) (cl : Nat → Nat) (fr pl : Nat → List Nat) (l : List CE) (bp : Option Addr) (bc : Nat), i + k = n → l.length ≤ i → i ≤ 300 → SI c x hp S fl L cl fr pl → Book l S L cl fr →
      Hold w.heap hx [wkR c wb dl Q x hp bp bc l] → L12 [.slice p n cp, gptr wb, .slice bp l.length bc, .int .i64 (i : Int)] hx := by
    intro k
    induction k with
    | zero =>
      intro i hx Q x hp S fl L cl fr pl l bp bc hi hl h300 W B I
      exact hL12 _ _ _ _ _ _ _ _ _ fun J13 hJ13 => qF' (decide_eq_false (by omega)) (hJ13 _ _ (iF rfl (last hx Q x hp S fl L cl fr pl l bp bc (by omega) W B I)))
    | succ k ih =>
      intro i hx Q x hp S fl L cl fr pl l bp bc hi hl h300 W B I
      refine hL12 _ _ _ _ _ _ _ _ _ fun J13 hJ13 => qT (decide_eq_true (by omega)) (hJ13 _ _ ?_)
      by_cases h3 : (i : Int) < 300
      case neg => exact iF (decide_eq_false h3) (last hx Q x hp S fl L cl fr pl l bp bc (by omega) W B I)
      obtain ⟨ad, z0, z1, z2, z3, ead, b1, b2, hcell⟩ := dd7_at hs (i := i) (by omega)
      obtain ⟨c0, c1, c2, c3⟩ := hcell hx I.u
      refine iT (decide_eq_true h3) ⟨ad, ead, by omega, by omega, _, c0, _, c1, _, c2, _, c3, do7_ok W B (TabH.of T0 I 0) (I.at 0) (by omega) b1 b2 fun x' hp' S' fl' L' cl' fr' pl' Q' l' bp' bc' h' hQ' W' B' O S' => ⟨_, _, _, _, rfl, iF rfl ?_⟩⟩
      rw [show IntKind.wrap .i64 ((i : Int) + 1) = ((i + 1 : Nat) : Int) by rw [IntKind.wrap_i64]; omega]
      exact ih (i + 1) h' Q' x' hp' _ fl' L' cl' fr' pl' l' bp' bc' (by omega) (by have := O.len; omega) (by omega) W' B' (I.step 0 S')
  exact loop n 0 h2 Q1 x0 _ _ _ _ _ _ _ [] none 0 (by omega) (Nat.le_refl _) (by omega) W0 book0 I3
end Go.Proofs.YteemmpkhdllapaaDoor
