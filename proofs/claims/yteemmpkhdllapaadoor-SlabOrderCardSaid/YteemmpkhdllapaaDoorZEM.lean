/- croftlaw7: SlabOrder. No condition. -/
import Derived.Test.YteemmpkhdllapaaDoorZEJ
import Derived.Test.YteemmpkhdllapaaDoorZGcroftlaw7SlabOrder
set_option linter.unusedSimpArgs false
set_option linter.unusedVariables false
namespace Go.Proofs.YteemmpkhdllapaaDoor
open Go.V Classical

/-! ### The plain law -/

def wrF (c : Cfg) (k q : Nat) (f : List Nat) : List Int := f.reverse.map fun j => adr c q + ((j * wdt k : Nat) : Int)

theorem wrF_cons (c : Cfg) (k q j : Nat) (f : List Nat) : wrF c k q (j :: f) = wrF c k q f ++ [adr c q + ((j * wdt k : Nat) : Int)] := by
  unfold wrF; simp
theorem wrF_len (c : Cfg) (k q : Nat) (f : List Nat) : (wrF c k q f).length = f.length := by unfold wrF; simp

theorem wrF_hd {c : Cfg} {k q : Nat} {f : List Nat} (hf : f ≠ []) (hj : ∀ j ∈ f, j < cnt k) : ∃ j, j < cnt k ∧ (wrF c k q f).getD 0 0 = adr c q + ((j * wdt k : Nat) : Int) ∧ 0 < (wrF c k q f).length := by
  have hne : f.reverse ≠ [] := by simpa using hf
  obtain ⟨j, l, e⟩ := List.exists_cons_of_ne_nil hne
  refine ⟨j, hj j (by have : j ∈ f.reverse := by rw [e]; exact List.mem_cons_self ..
                      simpa using this), ?_, by rw [wrF_len]; exact List.length_pos_iff.2 hf⟩
  unfold wrF
  rw [e]; rfl

def Stk (c : Cfg) (k : Nat) (pl : List Nat) (fr : Nat → List Nat) (A B : List Int) : Prop :=
  (pl = [] ∧ A = [] ∧ B = []) ∨ (∃ q, pl = [q] ∧ A = wrF c k q (fr q) ∧ B = []) ∨ (∃ q r, pl = [q, r] ∧ A = wrF c k q (fr q) ∧ B = wrF c k r (fr r))

def cntL (f : List Nat) : Nat → Nat
  | 0 => 0
  | j + 1 => cntL f j + if j ∈ f then 0 else 1

theorem cntL_le (f : List Nat) : ∀ j, cntL f j ≤ j
  | 0 => Nat.le_refl _
  | j + 1 => by
    have := cntL_le f j
    unfold cntL
    split <;> omega

theorem cntL_countP (f : List Nat) : ∀ n, cntL f n = (List.range n).countP (fun j => !decide (j ∈ f))
  | 0 => rfl
  | n + 1 => by
    rw [List.range_succ, List.countP_append, ← cntL_countP f n]
    rw [show cntL f (n + 1) = cntL f n + if n ∈ f then 0 else 1 from rfl]
    by_cases h : n ∈ f <;> simp [h]

theorem cntL_all {f : List Nat} {n : Nat} (nd : f.Nodup) (hb : ∀ j ∈ f, j < n) : cntL f n + f.length = n := by
  have h1 := List.length_eq_countP_add_countP (fun j => decide (j ∈ f)) (l := List.range n)
  have h2 : ((List.range n).filter fun j => decide (j ∈ f)).Perm f := (List.perm_ext_iff_of_nodup (List.nodup_range.filter _) nd).2 fun j => by
    rw [List.mem_filter, List.mem_range, decide_eq_true_eq]
    exact ⟨fun h => h.2, fun h => ⟨hb j h, h⟩⟩
  have h3 := h2.length_eq
  rw [← List.countP_eq_length_filter] at h3
  rw [cntL_countP]
  have h4 : (List.range n).countP (fun a => decide ¬ (decide (a ∈ f)) = true) = (List.range n).countP fun j => !decide (j ∈ f) := by
    congr 1
    funext j
    simp
  rw [List.length_range] at h1
  rw [h4] at h1
  omega

abbrev C8 : Cfg := ⟨1048576, 2, 1⟩
theorem good8 : C8.Good := good_iff.2 (by decide)
theorem usual7_C8 : usual7 1048576 2 1 = C8 := if_pos good8
theorem bu8_o : (BU0 C8).m.o = 1 := clamp_o good8

section
variable {w : World} {p0 : Int} {p : Option Addr} {n cp : Nat}

theorem SlabOrder_law {a0 : Int} (T0 : Tab w.heap) (h0 : (Lit.int .i64 a0).wf = true) (hs : SRow w.heap .i64 p n cp) :
    CallV Tryd.prog w F.croftlaw7_SlabOrder [.int .i64 a0, .slice p n cp] w.heap fun v h' => v = .bool true ∧ Upd NoB w.heap h' := by
  have hfin : ∀ h', Upd NoB w.heap h' → (fun (r : Value) (h' : Heap) => r = Value.bool true ∧ Upd NoB w.heap h') (.bool true) h' := fun h' u => ⟨rfl, u⟩
  generalize (fun (r : Value) (h' : Heap) => r = Value.bool true ∧ Upd NoB w.heap h') = K at hfin ⊢
  obtain ⟨gv, hnc, hcp, hrow, hgv⟩ := hs
  refine croftlaw7_SlabOrder.call ?_
  unfold croftlaw7_SlabOrder.vc
  intro J1 hJ1
  have main : ∀ k : Nat, k < 8 → J1 [.int .i64 (k : Int), .slice p n cp] w.heap := by
    intro k hk
    obtain ⟨cw, _, cn2, cn256, w16, w2048⟩ := cnt_wdt hk
    refine hJ1 _ _ _ _ _ (beginX (by unfold U64; omega) fun h1 wb Q1 dl hl N1 => ⟨_, rfl, fun J3 hJ3 => pF rfl ?_⟩)
    rw [usual7_C8] at N1
    have I0 : SI C8 (BU0 C8) (fun _ => -1) noS (fun _ => []) [] (fun _ => 0) (fun _ => []) (fun _ => []) := si0 good8 (fun _ => 0) (fun _ => [])
    have bo : (BU0 C8).m.o = 1 := bu8_o
    have bn : (BU0 C8).m.n = 0 := rfl
    have bs : (BU0 C8).st.n = 0 := rfl
    generalize BU0 C8 = x0 at N1 I0 bo bn bs
    have G1 := (Hold.nil w.heap).new N1
    refine lives7_ok (T0.upd G1.u id) fun h2 u2 => ⟨_, rfl, hJ3 _ _ (iF rfl ?_)⟩
    have G2 : Hold w.heap h2 [w7R C8 wb dl Q1 x0 fun _ => -1] := G1.quiet u2
    have ek : IntKind.wrap .u64 (k : Int) = (k : Int) := wU (by unfold U64; omega)
    have e8 : Int.fdiv (256 : Int) (2 ^ min (Int.toNat (k : Int)) (IntKind.bits .i64)) = (cnt k : Int) := by
      rcases k8 hk with rfl | rfl | rfl | rfl | rfl | rfl | rfl | rfl <;> decide
    have e9 : IntKind.wrap .u64 ((16 : Int) * 2 ^ min (Int.toNat (k : Int)) (IntKind.bits .u64)) = (wdt k : Int) := by
      have := shl16 hk; rwa [ek] at this
    rw [ek, e8, e9]
    have e2n : IntKind.wrap .i64 ((2 : Int) * (cnt k : Int)) = ((2 * cnt k : Nat) : Int) := by rw [wI (by unfold bd63; omega)]; omega
    refine ⟨by omega, by omega, fun J4 hJ4 L30 hL30 => ?_⟩
    have adr0 : ∀ q : Nat, adr C8 q = 1048576 + ((4096 * q : Nat) : Int) := fun q => by show (1048576 : Int) + 4096 * (q : Int) = _; omega
    -- the address of a cell
    have eadr : ∀ i j q : Nat, i = q * cnt k + j → q ≤ 1 → j < cnt k → IntKind.wrap .u64 ((1048576 : Int) + IntKind.wrap .u64 (IntKind.wrap .u64 (i : Int) * (wdt k : Int))) = adr C8 q + ((j * wdt k : Nat) : Int) := by
      intro i j q hi hq hj
      have h1 : i * wdt k = 4096 * q + j * wdt k := by rw [hi, Nat.add_mul, Nat.mul_assoc, cw, Nat.mul_comm q]
      have h2 := (cell_in hk hj).1
      have h3 : (i : Int) * (wdt k : Int) = ((i * wdt k : Nat) : Int) := (Int.natCast_mul ..).symm
      have hi2 : i ≤ 512 := by
        have : q * cnt k ≤ 1 * cnt k := Nat.mul_le_mul_right _ hq
        omega
      rw [wU (z := (i : Int)) (by unfold U64; omega), h3, adr0]
      rw [wU (z := ((i * wdt k : Nat) : Int)) (by unfold U64; omega), wU (by unfold U64; omega)]
      omega
    have epg : ∀ q j : Nat, q ≤ 1 → j < cnt k → IntKind.wrap .u64 (((BitVec.ofInt (IntKind.bits .u64) (adr C8 q + ((j * wdt k : Nat) : Int)) &&& ~~~ (BitVec.ofInt (IntKind.bits .u64) (4095 : Int))).toNat : Int)) = adr C8 q := by
      intro q j hq hj
      have h2 := (cell_in hk hj).1
      rw [← adr_off, page_of (b0 := C8.base) (by decide) (by decide) (by omega), show (4096 * q + j * wdt k) / 4096 = q by omega]
      have := adr_off C8 q 0
      simpa using this
    have u64c : ∀ q j : Nat, q ≤ 1 → j < cnt k → U64 (adr C8 q + ((j * wdt k : Nat) : Int)) := fun q j hq hj => by
      have h2 := (cell_in hk hj).1
      rw [adr0]; unfold U64; omega
    have same : ∀ q j q' j' : Nat, j < cnt k → j' < cnt k → adr C8 q + ((j * wdt k : Nat) : Int) = adr C8 q' + ((j' * wdt k : Nat) : Int) → q = q' ∧ j = j' := fun q j q' j' hj hj' e => by
      obtain ⟨e1, e2⟩ := cell_at (q := q) (q' := q') hk hk hj hj' (by rw [adr0, adr0] at e; omega)
      exact ⟨e1, mul_w e2⟩
    -- what is full twice
    have main2 : ∀ (hx : Heap) (Q : SL) (x : BU) (hp : Nat → Int) (S : Nat → Prop) (fl : Nat → List Nat) (L : List PBk) (cl : Nat → Nat) (fr pl : Nat → List Nat), SI C8 x hp S fl L cl fr pl → (∀ q, S q ↔ q = 0 ∨ q = 1) → (∀ q, S q → cl q = k) → pl k = [] → Hold w.heap hx [w7R C8 wb dl Q x hp] →
        J4 [.int .i64 (k : Int), .slice p n cp, gptr wb, .int .u64 (wdt k : Int), .int .i64 (cnt k : Int)] hx := by
      intro hx Q x hp S fl L cl fr pl W hS hcl hpl I
      refine hJ4 _ _ _ _ _ _ _ _ fun J5 hJ5 L13 hL13 => ?_
      have again : ∀ (hx : Heap) (Q : SL) (x : BU) (hp : Nat → Int) (S : Nat → Prop) (fl : Nat → List Nat) (L : List PBk) (cl : Nat → Nat) (fr pl : Nat → List Nat) (A B : List Int) (ap bp : Option Addr) (ac bc : Nat),
          SI C8 x hp S fl L cl fr pl → (∀ q, S q ↔ q = 0 ∨ q = 1) → (∀ q, S q → cl q = k) → Stk C8 k (pl k) fr A B → Hold w.heap hx [w7R C8 wb dl Q x hp, slR ap A.length ac 1 (uL A), slR bp B.length bc 1 (uL B)] →
          J5 [.int .i64 (k : Int), gptr wb, .slice ap A.length ac, .slice bp B.length bc] hx := by
        intro hx Q x hp S fl L cl fr pl A B ap bp ac bc W hS hcl hstk I
        refine hJ5 _ _ _ _ _ _ _ _ _ fun J6 hJ6 L7 hL7 => ?_
        have loop : ∀ (dd : Nat) (hx : Heap) (Q : SL) (x : BU) (hp : Nat → Int) (S : Nat → Prop) (fl : Nat → List Nat) (L : List PBk) (cl : Nat → Nat) (fr pl : Nat → List Nat) (A B : List Int) (ap bp : Option Addr) (ac bc : Nat), A.length + B.length = dd →
            SI C8 x hp S fl L cl fr pl → (∀ q, S q ↔ q = 0 ∨ q = 1) → (∀ q, S q → cl q = k) → (Stk C8 k (pl k) fr A B ∨ (A = [] ∧ ∃ r, pl k = [r] ∧ B = wrF C8 k r (fr r))) → Hold w.heap hx [w7R C8 wb dl Q x hp, slR ap A.length ac 1 (uL A), slR bp B.length bc 1 (uL B)] →
            L7 [.int .i64 (k : Int), gptr wb, .slice ap A.length ac, .slice bp B.length bc] hx := by
          intro dd
          induction dd with
          | zero =>
            intro hx Q x hp S fl L cl fr pl A B ap bp ac bc hd W hS hcl hstk I
            refine hL7 _ _ _ _ _ _ _ _ _ fun J8 hJ8 => pF (decide_eq_false (by omega)) ?_
            rw [decide_eq_false (show ¬ ((B.length : Int) > 0) by omega)]
            exact hJ8 _ _ (iF rfl (hJ6 _ (hfin _ I.u)))
          | succ dd ih =>
            intro hx Q x hp S fl L cl fr pl A B ap bp ac bc hd W hS hcl hstk I
            refine hL7 _ _ _ _ _ _ _ _ _ fun J8 hJ8 => ?_
            have go : J8 true hx := by
              refine hJ8 _ _ (iT rfl fun J9 hJ9 => ?_)
              have take : ∀ (A B : List Int) (ap bp : Option Addr) (ac bc : Nat), A.length + B.length = dd + 1 → A.length ≠ 0 → Stk C8 k (pl k) fr A B → Hold w.heap hx [w7R C8 wb dl Q x hp, slR ap A.length ac 1 (uL A), slR bp B.length bc 1 (uL B)] →
                  J9 [.int .i64 (k : Int), gptr wb, .slice ap A.length ac, .slice bp B.length bc] hx := by
                intro A B ap bp ac bc hd hA hstk I
                obtain ⟨q, l', hpl, hAe, hB⟩ : ∃ q l', pl k = q :: l' ∧ A = wrF C8 k q (fr q) ∧ ((l' = [] ∧ B = []) ∨ ∃ r, l' = [r] ∧ B = wrF C8 k r (fr r)) := by
                  rcases hstk with ⟨_, e, _⟩ | ⟨q, e1, e2, e3⟩ | ⟨q, r, e1, e2, e3⟩
                  · rw [e] at hA; exact absurd rfl hA
                  · exact ⟨q, _, e1, e2, .inl ⟨rfl, e3⟩⟩
                  · exact ⟨q, _, e1, e2, .inr ⟨r, rfl, e3⟩⟩
                have hSq := ((W.pn k hk).2 q).1 (by rw [hpl]; exact List.mem_cons_self ..)
                have hnd := (W.pn k hk).1
                rw [hpl] at hnd
                have H := I.at 0
                refine hJ9 _ _ _ _ _ _ _ _ _ ⟨_, rfl, _, w_c4 H, takeX W (TabH.of T0 I 0) H hk (fun q2 l2 j f e1 e2 x1 hp1 h3 Q1 hQ1 W1 st1 n1' o1 S1 => ?_) (fun e => by rw [hpl] at e; cases e) (fun e => by rw [hpl] at e; cases e)⟩
                rw [hpl] at e1
                cases e1
                have hAl : A = wrF C8 k q f ++ [adr C8 q + ((j * wdt k : Nat) : Int)] := by rw [hAe, e2, wrF_cons]
                have hAn : A.length = f.length + 1 := by rw [hAl, List.length_append, wrF_len]; rfl
                have hfl : f.length + 1 ≤ 256 := by
                  have := W.len hSq.1
                  rw [e2, hSq.2.1] at this
                  simp at this
                  omega
                have I1 := I.step 0 S1
                have hac := (show (slR ap A.length ac 1 (uL A)).P h3 from I1.at 1).1
                have RA := sl_uL (I1.at 1)
                refine ⟨_, _, _, rfl, fun J11 hJ11 => pF rfl (hJ11 _ _ fun J12 hJ12 => pF rfl ?_)⟩
                have ei : IntKind.wrap .i64 ((A.length : Int) - 1) = (f.length : Int) := by rw [IntKind.wrap_i64]; omega
                rw [ei]
                rcases RA with e | ⟨ba, oa, rfl, RA⟩
                · omega
                have hv : uL A f.length = .int .u64 (adr C8 q + ((j * wdt k : Nat) : Int)) := by
                  unfold uL
                  rw [hAl, List.getD_eq_getElem?_getD, List.getElem?_append_right (by rw [wrF_len]; omega), wrF_len, Nat.sub_self]
                  rfl
                refine ⟨_, rfl, by omega, by omega, _, (by rw [add_mk, Int.toNat_natCast, Nat.mul_one, RA _ (by omega), hv]), hJ12 _ _ (iF (by simp) ⟨by omega, by rw [ei]; omega, by rw [ei]; omega, ?_⟩)⟩
                rw [sl_front (I1.at 1) rfl, ei]
                have I2 := I1.as 1 (R := slR (some ⟨ba, oa, none⟩) A.length ac 1 (uL A)) (R' := slR (some ⟨ba, oa, none⟩) (wrF C8 k q f).length ac 1 (uL (wrF C8 k q f))) (fun P => by
                  refine sl_congr (sl_take P (m := (wrF C8 k q f).length) (by rw [wrF_len]; omega)) fun i hi => ?_
                  rw [wrF_len] at hi
                  unfold uL
                  rw [hAl, List.getD_eq_getElem?_getD, List.getD_eq_getElem?_getD, List.getElem?_append_left (by rw [wrF_len]; omega)]) fun _ e => e
                have := ih h3 Q1 x1 hp1 S fl L cl _ _ (wrF C8 k q f) B (some ⟨ba, oa, none⟩) bp ac bc (by rw [wrF_len]; omega) W1 hS hcl ?_ I2
                · rw [wrF_len] at this
                  exact this
                rw [fset_same]
                by_cases hf : f = []
                · rw [if_pos hf, hf]
                  rcases hB with ⟨rfl, hB⟩ | ⟨r, rfl, hB⟩
                  · exact .inl (.inl ⟨rfl, rfl, hB⟩)
                  · refine .inr ⟨rfl, r, rfl, ?_⟩
                    rw [fset_ne _ _ (fun e => by subst e; simp at hnd), hB]
                · rw [if_neg hf]
                  rcases hB with ⟨rfl, hB⟩ | ⟨r, rfl, hB⟩
                  · exact .inl (.inr (.inl ⟨q, rfl, by rw [fset_same], hB⟩))
                  · refine .inl (.inr (.inr ⟨q, r, rfl, by rw [fset_same], ?_⟩))
                    rw [fset_ne _ _ (fun e => by subst e; simp at hnd), hB]
              by_cases hA : A.length = 0
              · have hA0 : A = [] := List.eq_nil_of_length_eq_zero hA
                subst hA0
                have hst : Stk C8 k (pl k) fr B [] := by
                  rcases hstk with (⟨_, _, e⟩ | ⟨q, e1, e2, e3⟩ | ⟨q, r, e1, e2, e3⟩) | ⟨_, r, e1, e2⟩
                  · rw [e] at hd; simp at hd
                  · rw [e3] at hd; simp at hd
                  · have h1 := ((W.pn k hk).2 q).1 (by rw [e1]; exact List.mem_cons_self ..)
                    have := congrArg List.length e2
                    rw [wrF_len] at this
                    exact absurd (List.eq_nil_of_length_eq_zero this.symm) h1.2.2
                  · exact .inr (.inl ⟨r, e1, e2, rfl⟩)
                have IB : Hold w.heap hx [w7R C8 wb dl Q x hp, slR bp B.length bc 1 (uL B), slR none ([] : List Int).length 0 1 (uL [])] :=
                  (I.as 1 (R := slR ap ([] : List Int).length ac 1 (uL [])) (R' := slR none ([] : List Int).length 0 1 (uL [])) (fun _ => sl_nil _ _ _) fun b e => absurd e (sl_nil_fp b)).swap2
                exact iT rfl (take B [] bp none bc 0 (by simp at hd ⊢; omega) (by simp at hd; omega) hst IB)
              · refine iF (beq_eq_false_iff_ne.2 (by omega)) (take A B ap bp ac bc hd hA ?_ I)
                rcases hstk with h | ⟨e, _⟩
                · exact h
                · rw [e] at hA; exact absurd rfl hA
            by_cases hA : (A.length : Int) > 0
            · exact pT (decide_eq_true hA) go
            · refine pF (decide_eq_false hA) ?_
              rw [decide_eq_true (show (B.length : Int) > 0 by omega)]
              exact go
        exact loop _ hx Q x hp S fl L cl fr pl A B ap bp ac bc rfl W hS hcl (.inl hstk) I
      have loop : ∀ (dd i : Nat) (hx : Heap) (Q : SL) (x : BU) (hp : Nat → Int) (S : Nat → Prop) (fl : Nat → List Nat) (L : List PBk) (cl : Nat → Nat) (fr pl : Nat → List Nat) (A B : List Int) (ap bp : Option Addr) (ac bc : Nat), i + dd = n →
          SI C8 x hp S fl L cl fr pl → (∀ q, S q ↔ q = 0 ∨ q = 1) → (∀ q, S q → cl q = k) → Stk C8 k (pl k) fr A B → Hold w.heap hx [w7R C8 wb dl Q x hp, slR ap A.length ac 1 (uL A), slR bp B.length bc 1 (uL B)] →
          L13 [.int .i64 (k : Int), .slice p n cp, gptr wb, .int .u64 (wdt k : Int), .int .i64 (cnt k : Int), .slice ap A.length ac, .slice bp B.length bc, .int .i64 (i : Int)] hx := by
        intro dd
        induction dd with
        | zero =>
          intro i hx Q x hp S fl L cl fr pl A B ap bp ac bc hi W hS hcl hstk I
          exact hL13 _ _ _ _ _ _ _ _ _ _ _ _ _ _ _ fun J14 hJ14 => qF' (decide_eq_false (by omega)) (hJ14 _ _ (iF rfl (again hx Q x hp S fl L cl fr pl A B ap bp ac bc W hS hcl hstk I)))
        | succ dd ih =>
          intro i hx Q x hp S fl L cl fr pl A B ap bp ac bc hi W hS hcl hstk I
          refine hL13 _ _ _ _ _ _ _ _ _ _ _ _ _ _ _ fun J14 hJ14 => qT (decide_eq_true (by omega)) (hJ14 _ _ ?_)
          by_cases h40 : (i : Int) < 40
          case neg => exact iF (decide_eq_false h40) (again hx Q x hp S fl L cl fr pl A B ap bp ac bc W hS hcl hstk I)
          refine iT (decide_eq_true h40) fun J15 hJ15 J16 hJ16 => ?_
          have hwr : IntKind.wrap .i64 ((i : Int) + 1) = ((i + 1 : Nat) : Int) := by rw [IntKind.wrap_i64]; omega
          have H := I.at 0
          -- to the next one
          have next : ∀ (hy : Heap) (x : BU) (hp : Nat → Int) (fr pl : Nat → List Nat) (A B : List Int) (ap bp : Option Addr) (ac bc : Nat), SI C8 x hp S fl L cl fr pl → Stk C8 k (pl k) fr A B → Hold w.heap hy [w7R C8 wb dl Q x hp, slR ap A.length ac 1 (uL A), slR bp B.length bc 1 (uL B)] →
              J15 [.int .i64 (k : Int), .slice p n cp, gptr wb, .int .u64 (wdt k : Int), .int .i64 (cnt k : Int), .slice ap A.length ac, .slice bp B.length bc, .int .i64 (i : Int)] hy := by
            intro hy x hp fr pl A B ap bp ac bc W hstk I
            refine hJ15 _ _ _ _ _ _ _ _ _ _ _ _ _ _ _ ?_
            rw [hwr]
            exact ih (i + 1) hy Q x hp S fl L cl fr pl A B ap bp ac bc (by omega) W hS hcl hstk I
          have mid : ∀ kk : Nat, kk < 2 * cnt k → J16 [.int .i64 (k : Int), .slice p n cp, gptr wb, .int .u64 (wdt k : Int), .int .i64 (cnt k : Int), .slice ap A.length ac, .slice bp B.length bc, .int .i64 (i : Int), .int .i64 (kk : Int)] hx := by
            intro kk hkk
            have hq1 : kk / cnt k ≤ 1 := by
              have : kk / cnt k < 2 := Nat.div_lt_of_lt_mul (by rw [Nat.mul_comm]; exact hkk)
              omega
            have hj1 : kk % cnt k < cnt k := Nat.mod_lt _ (by omega)
            refine hJ16 _ _ _ _ _ _ _ _ _ _ _ _ _ _ _ _ ⟨_, rfl, _, w_c4 H, ?_⟩
            rw [eadr kk (kk % cnt k) (kk / cnt k) (by have := Nat.div_add_mod kk (cnt k); rw [Nat.mul_comm] at this; exact this.symm) hq1 hj1]
            have hu := u64c _ _ hq1 hj1
            generalize kk / cnt k = q at hq1 hu
            generalize kk % cnt k = j at hj1 hu
            refine sizeX hu W (TabH.of T0 I 0) H (fun hn h3 u3 => ⟨_, rfl, iT rfl (next h3 x hp fr pl A B ap bp ac bc W hstk (I.quiet u3))⟩) fun q' j' hS' hj' hn' ea h3 u3 => ⟨_, rfl, iF (by have := wdt_pos (cl q'); rw [beq_eq_false_iff_ne]; omega) fun J18 hJ18 L27 hL27 => ?_⟩
            have ck := hcl q' hS'
            rw [ck] at hj' ea
            obtain ⟨e1, e2⟩ := same _ _ _ _ hj1 hj' ea
            subst e1 e2
            have nd := W.nd q hS'
            rw [ck] at nd
            have hlen := cntL_all nd.1 nd.2
            have live : ∀ (d z : Nat) (hy : Heap), z + d = cnt k → Hold w.heap hy [w7R C8 wb dl Q x hp, slR ap A.length ac 1 (uL A), slR bp B.length bc 1 (uL B)] →
                L27 [.int .i64 (k : Int), .slice p n cp, gptr wb, .int .u64 (wdt k : Int), .int .i64 (cnt k : Int), .slice ap A.length ac, .slice bp B.length bc, .int .i64 (i : Int), .int .u64 (adr C8 q + ((j * wdt k : Nat) : Int)), .int .i64 (cntL (fr q) z : Int), .int .i64 (z : Int)] hy := by
              intro d
              induction d with
              | zero =>
                intro z hy hz I
                have hz : z = cnt k := by omega
                subst hz
                have H := I.at 0
                refine hL27 _ _ _ _ _ _ _ _ _ _ _ _ _ _ _ _ _ _ (iF (decide_eq_false (by omega)) (hJ18 _ _ _ _ _ _ _ _ _ _ _ _ _ _ _ _ _ ⟨fun _ => next hy x hp fr pl A B ap bp ac bc W hstk I, fun h1 => ?_⟩))
                have h1 : cntL (fr q) (cnt k) ≠ 1 := fun e => by rw [e] at h1; exact absurd h1 (by decide)
                refine ⟨_, rfl, _, w_c4 H, giveX hu W (TabH.of T0 I 0) H (fun hn => absurd (by rw [ck]) (hn q j hS' (by rw [ck]; exact hj') hn')) (fun q2 j2 hS2 hj2 hn2 he hlt x1 hp1 h4 W1 _ _ _ _ S4 => ?_) (fun q2 j2 L2 hS2 hj2 hn2 he hle => ?_)⟩
                case refine_2 =>
                  rw [hcl q2 hS2] at hj2 he hle
                  obtain ⟨e1, e2⟩ := same _ _ _ _ hj' hj2 he
                  subst e1
                  omega
                have ck2 := hcl q2 hS2
                rw [ck2] at hj2 he W1
                obtain ⟨e1, e2⟩ := same _ _ _ _ hj' hj2 he
                subst e1 e2
                refine ⟨_, rfl, iF rfl fun J20 hJ20 => ?_⟩
                have I4 := I.step 0 S4
                have hp1' := epg q j hq1 hj'
                have hpq : ∀ q', q' ∈ pl k ↔ S q' ∧ cl q' = k ∧ fr q' ≠ [] := (W.pn k hk).2
                have ndp := (W.pn k hk).1
                have frb : ∀ q', S q' → (fr q').length ≤ 256 := fun q' h => by have := W.len h; rw [hcl q' h] at this; omega
                have hdp : ∀ q', q' ∈ pl k → ∃ jz, jz < cnt k ∧ q' ≤ 1 ∧ (wrF C8 k q' (fr q')).getD 0 0 = adr C8 q' + ((jz * wdt k : Nat) : Int) ∧ 0 < (wrF C8 k q' (fr q')).length := fun q' h => by
                  obtain ⟨a1, a2, a3⟩ := (hpq q').1 h
                  have b1 := (W.nd q' a1).2
                  rw [a2] at b1
                  obtain ⟨jz, c1, c2, c3⟩ := wrF_hd (c := C8) (k := k) (q := q') a3 b1
                  exact ⟨jz, c1, by rcases (hS q').1 a1 with e | e <;> omega, c2, c3⟩
                -- a cell on a stack
                have push : ∀ (A : List Int) (ap : Option Addr) (ac : Nat) (hz : Heap), A.length ≤ 256 → (slR ap A.length ac 1 (uL A)).P hz → ∃ os, AppPre (hz.push (.cells #[.int .u64 (adr C8 q + ((j * wdt k : Nat) : Int))] T.T_uint64)) ap A.length ac (some ⟨hz.size, 0, none⟩) 1 1 8 os [.int .u64 (adr C8 q + ((j * wdt k : Nat) : Int))] ∧
                    ∀ (p' : Option Addr) (c' : Nat) (h' : Heap), AppRes (hz.push (.cells #[.int .u64 (adr C8 q + ((j * wdt k : Nat) : Int))] T.T_uint64)) ap A.length ac 1 [.int .u64 0] T.T_uint64 os [.int .u64 (adr C8 q + ((j * wdt k : Nat) : Int))] p' c' h' →
                      Stp hz h' (slR ap A.length ac 1 (uL A)) (slR p' (A ++ [adr C8 q + ((j * wdt k : Nat) : Int)]).length c' 1 (uL (A ++ [adr C8 q + ((j * wdt k : Nat) : Int)]))) := by
                  intro A ap ac hz hA P
                  obtain ⟨os, q1, q2⟩ := sl_app1 (zs := [.int .u64 0]) (v := .int .u64 (adr C8 q + ((j * wdt k : Nat) : Int))) (b := 8) (e := T.T_uint64) (T := T.T_uint64) P rfl rfl (by omega)
                  refine ⟨os, q1, fun p' c' h' res => (q2 p' c' h' res).conv (fun P => ?_) fun _ e => e⟩
                  have el : (A ++ [adr C8 q + ((j * wdt k : Nat) : Int)]).length = A.length + 1 := by simp
                  rw [el]
                  exact sl_congr P fun i hi => uL_snoc A _ i (by omega)
                have el1 : ∀ A : List Int, (A ++ [adr C8 q + ((j * wdt k : Nat) : Int)]).length = A.length + 1 := fun A => by simp
                have closeA : A.length ≤ 256 → Stk C8 k (fset pl k (if fr q = [] then q :: pl k else pl k) k) (fset fr q (j :: fr q)) (A ++ [adr C8 q + ((j * wdt k : Nat) : Int)]) B → J20 true h4 := fun hA hst => hJ20 _ _ ⟨fun _ => by
                  obtain ⟨os, q1, q2⟩ := push A ap ac h4 hA (I4.at 1)
                  refine ⟨os, _, q1, fun p' c' h' res => ?_⟩
                  have := next h' x1 hp1 _ _ (A ++ [adr C8 q + ((j * wdt k : Nat) : Int)]) B p' bp c' bc W1 hst (I4.step 1 (q2 p' c' h' res))
                  rw [el1] at this
                  exact this, fun e => by cases e⟩
                have closeB : B.length ≤ 256 → Stk C8 k (fset pl k (if fr q = [] then q :: pl k else pl k) k) (fset fr q (j :: fr q)) A (B ++ [adr C8 q + ((j * wdt k : Nat) : Int)]) → (∃ z, 0 < B.length ∧ B.getD 0 0 = z ∧ IntKind.wrap .u64 (((BitVec.ofInt (IntKind.bits .u64) z &&& ~~~ (BitVec.ofInt (IntKind.bits .u64) (4095 : Int))).toNat : Int)) = adr C8 q) → J20 false h4 := fun hB hst ⟨z, hz0, hz1, hz2⟩ => hJ20 _ _ ⟨fun e => (by cases e), fun _ J23 hJ23 => by
                  have RB := sl_uL (I4.at 2)
                  rcases RB with e | ⟨bb, ob, rfl, RB⟩
                  · omega
                  refine qT (decide_eq_true (by omega)) ⟨_, rfl, by omega, by omega, z, (by rw [add_mk, show Int.toNat (0 : Int) * 1 = 0 from rfl, RB 0 hz0]; unfold uL; rw [hz1]), ?_⟩
                  rw [hz2, hp1', beq_self_eq_true]
                  refine hJ23 _ _ ⟨fun _ => ?_, fun e => by cases e⟩
                  obtain ⟨os, q1, q2⟩ := push B (some ⟨bb, ob, none⟩) bc h4 hB (I4.at 2)
                  refine ⟨os, _, q1, fun p' c' h' res => ?_⟩
                  have := next h' x1 hp1 _ _ A (B ++ [adr C8 q + ((j * wdt k : Nat) : Int)]) ap p' ac c' W1 hst (I4.step 2 (q2 p' c' h' res))
                  rw [el1] at this
                  exact this⟩
                have closeN : B = [] → Stk C8 k (fset pl k (if fr q = [] then q :: pl k else pl k) k) (fset fr q (j :: fr q)) [adr C8 q + ((j * wdt k : Nat) : Int)] A → J20 false h4 := fun hB hst => hJ20 _ _ ⟨fun e => (by cases e), fun _ J23 hJ23 => qF' (decide_eq_false (by rw [hB]; simp)) (hJ23 _ _ ⟨fun e => (by cases e), fun _ => by
                  have N5 := sl_lit h4 #[.int .u64 (adr C8 q + ((j * wdt k : Nat) : Int))] T.T_uint64 1 1 rfl
                  have N6 : New h4 (h4.push (.cells #[.int .u64 (adr C8 q + ((j * wdt k : Nat) : Int))] T.T_uint64)) (slR (some ⟨h4.size, 0, none⟩) [adr C8 q + ((j * wdt k : Nat) : Int)].length 1 1 (uL [adr C8 q + ((j * wdt k : Nat) : Int)])) := N5.conv (fun P => sl_congr P fun i hi => by
                    have hi : i < 1 := hi
                    have : i = 0 := by omega
                    subst this; rfl) fun _ e => e
                  have I6 := I4.new N6
                  have I7 : Hold w.heap _ [w7R C8 wb dl Q x1 hp1, slR (some ⟨h4.size, 0, none⟩) [adr C8 q + ((j * wdt k : Nat) : Int)].length 1 1 (uL [adr C8 q + ((j * wdt k : Nat) : Int)]), slR ap A.length ac 1 (uL A)] := I6.swap.sub (.cons_cons _ (.cons_cons _ (.cons_cons _ (.cons _ .slnil))))
                  exact next _ x1 hp1 _ _ [adr C8 q + ((j * wdt k : Nat) : Int)] A (some ⟨h4.size, 0, none⟩) ap 1 ac W1 hst I7⟩)⟩
                have noA : (A.length : Int) > 0 → ∀ (q0 jz : Nat), q0 ≤ 1 → jz < cnt k → A.getD 0 0 = adr C8 q0 + ((jz * wdt k : Nat) : Int) → J20 (decide (q0 = q)) h4 → (∃ a137 : Addr, ap = some a137 ∧ 0 ≤ (0 : Int) ∧ (0 : Int) < (A.length : Nat) ∧ (∃ n138 : Int, cellAt h4 (a137.add (Int.toNat (0 : Int) * 1)) = some (.int .u64 n138) ∧
                    J20 ((IntKind.wrap .u64 (((BitVec.ofInt (IntKind.bits .u64) n138 &&& ~~~ (BitVec.ofInt (IntKind.bits .u64) (4095 : Int))).toNat : Int))) == (IntKind.wrap .u64 (((BitVec.ofInt (IntKind.bits .u64) (adr C8 q + ((j * wdt k : Nat) : Int)) &&& ~~~ (BitVec.ofInt (IntKind.bits .u64) (4095 : Int))).toNat : Int)))) h4)) := fun hA q0 jz hq0 hjz hz hJ => by
                  have RA := sl_uL (I4.at 1)
                  rcases RA with e | ⟨ba, oa, rfl, RA⟩
                  · omega
                  refine ⟨_, rfl, by omega, by omega, adr C8 q0 + ((jz * wdt k : Nat) : Int), (by rw [add_mk, show Int.toNat (0 : Int) * 1 = 0 from rfl, RA 0 (by omega)]; unfold uL; rw [hz]), ?_⟩
                  rw [epg q0 jz hq0 hjz, hp1']
                  have : (adr C8 q0 == adr C8 q) = decide (q0 = q) := by
                    by_cases e : q0 = q
                    · rw [e]; simp
                    · rw [decide_eq_false e, beq_eq_false_iff_ne]; rw [adr0, adr0]; omega
                  rw [this]
                  exact hJ
                have q01 : ∀ q', S q' → q' ≤ 1 := fun q' h => by rcases (hS q').1 h with e | e <;> omega
                rcases hstk with ⟨a1, a2, a3⟩ | ⟨q0, a1, a2, a3⟩ | ⟨q0, r0, a1, a2, a3⟩
                · -- none is there
                  have hfq : fr q = [] := Classical.byContradiction fun hne => by
                    have := (hpq q).2 ⟨hS', ck, hne⟩
                    rw [a1] at this; cases this
                  refine qF' (decide_eq_false (by rw [a2]; simp)) (closeN a3 ?_)
                  rw [fset_same, if_pos hfq, a1, hfq, a2]
                  exact .inr (.inl ⟨q, rfl, by rw [fset_same]; simp [wrF], rfl⟩)
                · have hq0m : q0 ∈ pl k := by rw [a1]; exact List.mem_cons_self ..
                  obtain ⟨jz, b1, b2, b3, b4⟩ := hdp q0 hq0m
                  have hs0 := (hpq q0).1 hq0m
                  rw [← a2] at b3 b4
                  have hAl : A.length ≤ 256 := by rw [a2, wrF_len]; exact frb q0 hs0.1
                  refine qT (decide_eq_true (by omega)) (noA (by omega) q0 jz b2 b1 b3 ?_)
                  by_cases e : q0 = q
                  · subst e
                    rw [decide_eq_true rfl]
                    refine closeA hAl ?_
                    rw [fset_same, if_neg hs0.2.2, a1]
                    exact .inr (.inl ⟨q0, rfl, by rw [fset_same, wrF_cons, a2], a3⟩)
                  · rw [decide_eq_false e]
                    have hfq : fr q = [] := Classical.byContradiction fun hne => by
                      have := (hpq q).2 ⟨hS', ck, hne⟩
                      rw [a1] at this
                      exact e (List.mem_singleton.1 this).symm
                    refine closeN a3 ?_
                    rw [fset_same, if_pos hfq, a1]
                    exact .inr (.inr ⟨q, q0, rfl, by rw [fset_same, hfq]; simp [wrF], by rw [fset_ne _ _ e, a2]⟩)
                · have hq0m : q0 ∈ pl k := by rw [a1]; exact List.mem_cons_self ..
                  have hr0m : r0 ∈ pl k := by rw [a1]; simp
                  have hqr : q0 ≠ r0 := fun e => by rw [a1, e] at ndp; simp at ndp
                  obtain ⟨jz, b1, b2, b3, b4⟩ := hdp q0 hq0m
                  obtain ⟨jy, d1, d2, d3, d4⟩ := hdp r0 hr0m
                  have hs0 := (hpq q0).1 hq0m
                  have hr0 := (hpq r0).1 hr0m
                  rw [← a2] at b3 b4
                  rw [← a3] at d3 d4
                  have hAl : A.length ≤ 256 := by rw [a2, wrF_len]; exact frb q0 hs0.1
                  have hBl : B.length ≤ 256 := by rw [a3, wrF_len]; exact frb r0 hr0.1
                  refine qT (decide_eq_true (by omega)) (noA (by omega) q0 jz b2 b1 b3 ?_)
                  by_cases e : q0 = q
                  · subst e
                    rw [decide_eq_true rfl]
                    refine closeA hAl ?_
                    rw [fset_same, if_neg hs0.2.2, a1]
                    exact .inr (.inr ⟨q0, r0, rfl, by rw [fset_same, wrF_cons, a2], by rw [fset_ne _ _ (Ne.symm hqr), a3]⟩)
                  · rw [decide_eq_false e]
                    have er : r0 = q := by omega
                    subst er
                    refine closeB hBl ?_ ⟨_, d4, d3, epg r0 jy d2 d1⟩
                    rw [fset_same, if_neg hr0.2.2, a1]
                    exact .inr (.inr ⟨q0, r0, rfl, by rw [fset_ne _ _ hqr, a2], by rw [fset_same, wrF_cons, a3]⟩)
              | succ d ihd =>
                intro z hy hz I
                have H := I.at 0
                have hzc : z < cnt k := by omega
                refine hL27 _ _ _ _ _ _ _ _ _ _ _ _ _ _ _ _ _ _ (iT (decide_eq_true (by omega)) fun J28 hJ28 => ⟨_, rfl, _, w_c4 H, ?_⟩)
                have h3 : (z : Int) * (wdt k : Int) = ((z * wdt k : Nat) : Int) := (Int.natCast_mul ..).symm
                have h2 := (cell_in hk hzc).1
                have e3 : IntKind.wrap .u64 (adr C8 q + IntKind.wrap .u64 (IntKind.wrap .u64 (z : Int) * (wdt k : Int))) = adr C8 q + ((z * wdt k : Nat) : Int) := by
                  rw [wU (z := (z : Int)) (by unfold U64; omega), h3, wU (z := ((z * wdt k : Nat) : Int)) (by unfold U64; omega), wU (u64c q z hq1 hzc)]
                rw [epg q j hq1 hj', e3]
                have nx : ∀ (b : Nat) (h5 : Heap), cntL (fr q) (z + 1) = b → Upd NoB hy h5 → J28 [.int .i64 (k : Int), .slice p n cp, gptr wb, .int .u64 (wdt k : Int), .int .i64 (cnt k : Int), .slice ap A.length ac, .slice bp B.length bc, .int .i64 (i : Int), .int .u64 (adr C8 q + ((j * wdt k : Nat) : Int)), .int .i64 (b : Int), .int .i64 (z : Int)] h5 := by
                  intro b h5 hb u5
                  refine hJ28 _ _ _ _ _ _ _ _ _ _ _ _ _ _ _ _ _ _ ?_
                  rw [show IntKind.wrap .i64 ((z : Int) + 1) = ((z + 1 : Nat) : Int) by rw [IntKind.wrap_i64]; omega, ← hb]
                  exact ihd (z + 1) h5 (by omega) (I.quiet u5)
                have hcz : cntL (fr q) (z + 1) = cntL (fr q) z + if z ∈ fr q then 0 else 1 := rfl
                have hcle := cntL_le (fr q) z
                refine sizeX (u64c q z hq1 hzc) W (TabH.of T0 I 0) H (fun hn h5 u5 => ⟨_, rfl, iF rfl ?_⟩) fun q2 j2 hS2 hj2 hn2 he h5 u5 => ⟨_, rfl, iT (decide_eq_true (by have := wdt_pos (cl q2); omega)) ?_⟩
                · refine nx _ h5 ?_ u5
                  have hin : z ∈ fr q := Classical.byContradiction fun hno => hn q z hS' (by rw [ck]; exact hzc) hno (by rw [ck])
                  rw [hcz, if_pos hin, Nat.add_zero]
                · rw [hcl q2 hS2] at hj2 he
                  obtain ⟨e1, e2⟩ := same _ _ _ _ hzc hj2 he
                  subst e1 e2
                  rw [show IntKind.wrap .i64 ((cntL (fr q) z : Int) + 1) = ((cntL (fr q) z + 1 : Nat) : Int) by rw [IntKind.wrap_i64]; omega]
                  exact nx _ h5 (by rw [hcz, if_neg hn2]) u5
            exact live (cnt k) 0 h3 (by omega) (I.quiet u3)
          have hgi := wf_bd63 (hgv i (by omega))
          unfold bd63 at hgi
          rcases hrow with e | ⟨bg, og, rfl, hrow⟩
          · omega
          have hcg : cellAt hx ((⟨bg, og, none⟩ : Addr).add (Int.toNat (i : Int) * 1)) = some (.int .i64 (gv i)) := by
            rw [add_mk, Int.toNat_natCast, Nat.mul_one]
            exact cellAt_upd (hrow i (by omega)) I.u id
          refine ⟨_, rfl, by omega, by omega, _, hcg, ?_⟩
          rw [e2n]
          by_cases hpos : gv i > 0
          · refine iT (decide_eq_true hpos) ⟨_, rfl, by omega, by omega, _, hcg, by omega, ?_⟩
            obtain ⟨g, hg⟩ : ∃ g : Nat, gv i = g := ⟨(gv i).toNat, by omega⟩
            rw [hg, show Int.tmod (g : Int) ((2 * cnt k : Nat) : Int) = ((g % (2 * cnt k) : Nat) : Int) by rw [Int.tmod_eq_emod_of_nonneg (by omega)]; exact (Int.natCast_emod _ _).symm]
            exact mid _ (Nat.mod_lt _ (by omega))
          · exact iF (decide_eq_false hpos) (mid 0 (by omega))
      have I3 : Hold w.heap hx [w7R C8 wb dl Q x hp, slR none ([] : List Int).length 0 1 (uL []), slR none ([] : List Int).length 0 1 (uL [])] :=
        ((I.new (R := slR none ([] : List Int).length 0 1 (uL [])) ⟨Upd.refl _ _, sl_nil _ _ _, fun b e => absurd e (sl_nil_fp b)⟩).new (R := slR none ([] : List Int).length 0 1 (uL [])) ⟨Upd.refl _ _, sl_nil _ _ _, fun b e => absurd e (sl_nil_fp b)⟩).perm ((List.Perm.swap _ _ _).trans (.cons _ (.swap _ _ _)))
      exact loop n 0 hx Q x hp S fl L cl fr pl [] [] none none 0 0 (by omega) W hS hcl (.inl ⟨hpl, rfl, rfl⟩) I3
    -- the second page
    have partB : ∀ (dd i : Nat) (hx : Heap) (Q : SL) (x : BU) (hp : Nat → Int) (S : Nat → Prop) (fl : Nat → List Nat) (L : List PBk) (cl : Nat → Nat) (fr pl : Nat → List Nat), i + dd = cnt k → SI C8 x hp S fl L cl fr pl → (∀ q, S q ↔ q = 0 ∨ q = 1) → (∀ q, S q → cl q = k) → fr 1 = List.range' i dd → pl k = (if dd = 0 then [] else [1]) →
        Hold w.heap hx [w7R C8 wb dl Q x hp] → L30 [.int .i64 (k : Int), .slice p n cp, gptr wb, .int .u64 (wdt k : Int), .int .i64 (cnt k : Int), .int .i64 ((cnt k + i : Nat) : Int)] hx := by
      intro dd
      induction dd with
      | zero =>
        intro i hx Q x hp S fl L cl fr pl hi W hS hcl hfr hpl I
        refine hL30 _ _ _ _ _ _ _ _ _ ?_
        rw [e2n]
        exact iF (decide_eq_false (by omega)) (main2 hx Q x hp S fl L cl fr pl W hS hcl hpl I)
      | succ dd ih =>
        intro i hx Q x hp S fl L cl fr pl hi W hS hcl hfr hpl I
        have H := I.at 0
        refine hL30 _ _ _ _ _ _ _ _ _ ?_
        rw [e2n, eadr (cnt k + i) i 1 (by omega) (by omega) (by omega)]
        rw [if_neg (by omega)] at hpl
        refine iT (decide_eq_true (by omega)) ⟨_, rfl, _, w_c4 H, takeX W (TabH.of T0 I 0) H hk (fun q l' j f e1 e2 x1 hp1 h3 Q1 hQ1 W1 st1 n1' o1 S1 => ?_) (fun e => by rw [hpl] at e; cases e) (fun e => by rw [hpl] at e; cases e)⟩
        rw [hpl] at e1
        cases e1
        rw [hfr, List.range'_succ] at e2
        cases e2
        refine ⟨_, _, _, rfl, fun J32 hJ32 => pF rfl ?_⟩
        rw [show (adr C8 1 + ((i * wdt k : Nat) : Int) != adr C8 1 + ((i * wdt k : Nat) : Int)) = false by simp]
        refine hJ32 _ _ (iF rfl ?_)
        rw [show IntKind.wrap .i64 (((cnt k + i : Nat) : Int) + 1) = ((cnt k + (i + 1) : Nat) : Int) by rw [IntKind.wrap_i64]; omega]
        refine ih (i + 1) h3 Q1 x1 hp1 S fl L cl _ _ (by omega) W1 hS hcl (fset_same _ _ _) ?_ (I.step 0 S1)
        rw [fset_same]
        cases dd <;> rfl
    -- the first page
    have partA : ∀ (dd i : Nat) (hx : Heap) (Q : SL) (x : BU) (hp : Nat → Int) (S : Nat → Prop) (fl : Nat → List Nat) (L : List PBk) (cl : Nat → Nat) (fr pl : Nat → List Nat), i + dd = cnt k → SI C8 x hp S fl L cl fr pl → (∀ q, S q ↔ q = 0) → (∀ q, S q → cl q = k) → fr 0 = List.range' i dd → pl k = (if dd = 0 then [] else [0]) → fl 0 = [1] → x.m.o = 1 →
        Hold w.heap hx [w7R C8 wb dl Q x hp] → L30 [.int .i64 (k : Int), .slice p n cp, gptr wb, .int .u64 (wdt k : Int), .int .i64 (cnt k : Int), .int .i64 (i : Int)] hx := by
      intro dd
      induction dd with
      | zero =>
        intro i hx Q x hp S fl L cl fr pl hi W hS hcl hfr hpl hfl hxo I
        have hi : i = cnt k := by omega
        subst hi
        have H := I.at 0
        refine hL30 _ _ _ _ _ _ _ _ _ ?_
        rw [e2n, eadr (cnt k) 0 1 (by omega) (by omega) (by omega)]
        rw [if_pos rfl] at hpl
        refine iT (decide_eq_true (by omega)) ⟨_, rfl, _, w_c4 H, takeX W (TabH.of T0 I 0) H hk (fun q l' j f e1 => by rw [hpl] at e1; cases e1) (fun _ e => by have := e 0 (by omega); rw [hfl] at this; cases this) (fun _ q b fl' x1 hp1 h3 Q1 hQ1 hcase W1 o1 K1 S1 => ?_)⟩
        have hqb : q = 1 ∧ b = false := by
          rcases hcase with ⟨rfl, j, l, hj, hF, hno, _⟩ | ⟨_, hF, _⟩
          · have hj0 : j = 0 := Classical.byContradiction fun hne => by have := hno 0 (by omega); rw [hfl] at this; cases this
            rw [hj0, hfl] at hF
            cases hF
            exact ⟨rfl, rfl⟩
          · have := hF 0 (by omega); rw [hfl] at this; cases this
        obtain ⟨rfl, rfl⟩ := hqb
        refine ⟨_, _, _, rfl, fun J32 hJ32 => pF rfl ?_⟩
        rw [show (adr C8 1 != adr C8 1 + ((0 * wdt k : Nat) : Int)) = false by simp]
        refine hJ32 _ _ (iF rfl ?_)
        rw [show IntKind.wrap .i64 ((cnt k : Int) + 1) = ((cnt k + 1 : Nat) : Int) by rw [IntKind.wrap_i64]; omega]
        refine partB (cnt k - 1) 1 h3 Q1 x1 hp1 _ _ _ _ _ _ (by omega) W1 (fun q => by rw [hS]) (fun q hq => ?_) (fset_same _ _ _) ?_ (I.step 0 S1)
        · by_cases e : q = 1
          · rw [e, fset_same]
          · rw [fset_ne _ _ e]; exact hcl q (hq.resolve_right e)
        · rw [fset_same, if_neg (by omega)]
      | succ dd ih =>
        intro i hx Q x hp S fl L cl fr pl hi W hS hcl hfr hpl hfl hxo I
        have H := I.at 0
        refine hL30 _ _ _ _ _ _ _ _ _ ?_
        rw [e2n, eadr i i 0 (by omega) (by omega) (by omega)]
        rw [if_neg (by omega)] at hpl
        refine iT (decide_eq_true (by omega)) ⟨_, rfl, _, w_c4 H, takeX W (TabH.of T0 I 0) H hk (fun q l' j f e1 e2 x1 hp1 h3 Q1 hQ1 W1 st1 n1' o1 S1 => ?_) (fun e => by rw [hpl] at e; cases e) (fun e => by rw [hpl] at e; cases e)⟩
        rw [hpl] at e1
        cases e1
        rw [hfr, List.range'_succ] at e2
        cases e2
        refine ⟨_, _, _, rfl, fun J32 hJ32 => pF rfl ?_⟩
        rw [show (adr C8 0 + ((i * wdt k : Nat) : Int) != adr C8 0 + ((i * wdt k : Nat) : Int)) = false by simp]
        refine hJ32 _ _ (iF rfl ?_)
        rw [show IntKind.wrap .i64 ((i : Int) + 1) = ((i + 1 : Nat) : Int) by rw [IntKind.wrap_i64]; omega]
        refine ih (i + 1) h3 Q1 x1 hp1 S fl L cl _ _ (by omega) W1 hS hcl (fset_same _ _ _) ?_ hfl (by rw [o1]; exact hxo) (I.step 0 S1)
        rw [fset_same]
        cases dd <;> rfl
    have H := G2.at 0
    refine hL30 _ _ _ _ _ _ _ _ _ ?_
    rw [e2n, show IntKind.wrap .u64 ((1048576 : Int) + IntKind.wrap .u64 (IntKind.wrap .u64 (0 : Int) * (wdt k : Int))) = adr C8 0 + ((0 * wdt k : Nat) : Int) from eadr 0 0 0 (by omega) (by omega) (by omega)]
    refine iT (decide_eq_true (by omega)) ⟨_, rfl, _, w_c4 H, takeX I0 (TabH.of T0 G2 0) H hk (fun q l' j f e1 => by cases e1) (fun _ _ e => by rcases e with e | e; cases e; rw [bs] at e; exact absurd e (by decide)) (fun _ q b fl' x1 hp1 h3 Q1 hQ1 hcase W1 o1 K1 S1 => ?_)⟩
    rcases hcase with ⟨_, j, l, _, hF, _⟩ | ⟨rfl, _, _, _, rfl, efl, n3, s3⟩
    · cases hF
    rw [bn, bo] at efl
    rw [bn] at W1
    have efl' : ∀ F : Nat → List Nat, aCut 0 0 (fset F 1 []) (1 - 0) 0 = (0 + 2 ^ 0) :: F 0 := fun F => by
      show fset (fset F 1 []) (0 + 0) ((0 + 2 ^ (0 + 0)) :: fset F 1 [] (0 + 0)) 0 = _
      rw [Nat.zero_add, fset_same, fset_ne _ _ (by omega : (0 : Nat) ≠ 1)]
    rw [bn]
    refine ⟨_, _, _, rfl, fun J32 hJ32 => pF rfl ?_⟩
    rw [show (adr C8 0 != adr C8 0 + ((0 * wdt k : Nat) : Int)) = false by simp]
    refine hJ32 _ _ (iF rfl ?_)
    refine partA (cnt k - 1) 1 h3 Q1 x1 hp1 _ _ _ _ _ _ (by omega) W1 (fun q => ⟨fun h => h.elim False.elim id, .inr⟩) (fun q hq => ?_) (fset_same _ _ _) ?_ ?_ (by rw [o1]; exact bo) (G2.step 0 S1)
    · rw [show q = 0 from hq.elim False.elim id, fset_same]
    · rw [fset_same, if_neg (by omega)]
    · rw [efl]; exact efl' _
  intro J34 hJ34
  have hw := wf_bd63 h0
  unfold bd63 at hw
  have h34 : ∀ b : Bool, (b = true ∨ (0 ≤ a0 ∧ a0 ≤ 7)) → J34 b w.heap := fun b hb => hJ34 _ _ ⟨fun _ => main 7 (by omega), fun e => by
    rcases hb with rfl | hb
    · cases e
    · obtain ⟨k, rfl⟩ : ∃ k : Nat, a0 = k := ⟨a0.toNat, by omega⟩
      exact main k (by omega)⟩
  by_cases hneg : a0 < 0
  · exact pT (decide_eq_true hneg) (h34 _ (.inl rfl))
  · refine pF (decide_eq_false hneg) ?_
    by_cases h7 : a0 > 7
    · rw [decide_eq_true h7]; exact h34 _ (.inl rfl)
    · exact h34 _ (.inr ⟨by omega, by omega⟩)
end
end Go.Proofs.YteemmpkhdllapaaDoor
