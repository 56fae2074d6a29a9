/- croftlaw7: SlabKnown. No condition. -/
import Derived.Test.YteemmpkhdllapaaDoorZEJ
import Derived.Test.YteemmpkhdllapaaDoorZGcroftlaw7SlabKnown
set_option linter.unusedSimpArgs false
set_option linter.unusedVariables false
namespace Go.Proofs.YteemmpkhdllapaaDoor
open Go.V Classical

section
variable {w₀ : World} {h : Heap} {c : Cfg} {wb : Nat} {d : List Value} {Q : SL} {x : BU} {hp : Nat → Int} {S : Nat → Prop} {fl : Nat → List Nat} {L : List PBk} {cl : Nat → Nat} {fr pl : Nat → List Nat} {K : Value → Heap → Prop}

theorem parts_ok {a0 a1 a2 a3 a4 a5 a6 a7 : Int} {J : Bool → Heap → Prop} (H : (w7R c wb d Q x hp).P h) (e : ptL hp = [a0, a1, a2, a3, a4, a5, a6, a7]) (hJ : ∀ h', Upd NoB h h' → J false h') :
    CallV Tryd.prog w₀ F.slab_Slab_Partial [gptr Q.sb] h fun (v79 : Value) (h79 : Heap) => ∃ p : Option Addr, ∃ n : Nat, ∃ c : Nat, v79 = (.slice p n c) ∧
      (CallV Tryd.prog w₀ F.croftlaw7_ints [(.slice p n c), (.slice (some (⟨h79.size, 0, none⟩ : Addr)) 8 8)] (Array.push h79 (.cells #[.int .i64 a0, .int .i64 a1, .int .i64 a2, .int .i64 a3, .int .i64 a4, .int .i64 a5, .int .i64 a6, .int .i64 a7] T.T_int)) fun (v81 : Value) (h81 : Heap) => ∃ r81 : Bool, v81 = (.bool r81) ∧ J (!r81) h81) := by
  refine Partial_ok (w_s H).1 fun h1 q1 N1 => ⟨_, _, _, rfl, ?_⟩
  have J1 := (Hold.nil h).new N1
  have N2 := sl_lit h1 #[.int .i64 a0, .int .i64 a1, .int .i64 a2, .int .i64 a3, .int .i64 a4, .int .i64 a5, .int .i64 a6, .int .i64 a7] T.T_int 8 1 rfl
  generalize Array.push h1 (.cells #[.int .i64 a0, .int .i64 a1, .int .i64 a2, .int .i64 a3, .int .i64 a4, .int .i64 a5, .int .i64 a6, .int .i64 a7] T.T_int) = h2 at N2 ⊢
  have J2 := J1.new N2
  have R1 : Row h2 q1 (ptL hp).length (iL (ptL hp)) := by have := sl_row (J2.at 1); rw [ptL_len]; rwa [Nat.mul_one] at this
  have R2 : Row h2 (some (⟨h1.size, 0, none⟩ : Addr)) [a0, a1, a2, a3, a4, a5, a6, a7].length (iL [a0, a1, a2, a3, a4, a5, a6, a7]) := by
    have := sl_row (sl_congr (g := iL [a0, a1, a2, a3, a4, a5, a6, a7]) (J2.at 0) fun i hi => by
      have hi : i < 8 := hi
      have : i = 0 ∨ i = 1 ∨ i = 2 ∨ i = 3 ∨ i = 4 ∨ i = 5 ∨ i = 6 ∨ i = 7 := by omega
      rcases this with rfl | rfl | rfl | rfl | rfl | rfl | rfl | rfl <;> rfl)
    rwa [Nat.mul_one] at this
  have key := ints7_ok (w₀ := w₀) (cp := 8) (cq := 8) (K := fun v71 h71 => ∃ r71 : Bool, v71 = .bool r71 ∧ J (!r71) h71) (by rw [ptL_len]; omega) R1 R2 ⟨_, rfl, by rw [decide_eq_true e]; exact hJ _ J2.u⟩
  rw [ptL_len] at key
  exact key

theorem word7_ok {a : Nat} {p v : Int} (I : SI c x hp S fl L cl fr pl) (H : (w7R c wb d Q x hp).P h) (ep : p = c.base + (a : Int)) (ha : a + 8 ≤ 4096 * x.m.n) (ev : x.st.rd c p = v) (hK : ∀ h', Upd NoB h h' → K (.int .u64 v) h') :
    CallV Tryd.prog w₀ F.croftlaw7_world_word [gptr wb, .int .u64 p] h K := by
  subst ev ep
  have hb := bu_bounds I.w.g I.w.ok.m
  have n1 := I.w.ok.m.n1
  have hsp := I.ki.span
  refine croftlaw7_world_word.call ⟨_, rfl, _, w_c3 H, _, rfl, ground_Space_ok (s_pl (w_s H)) ⟨_, rfl, mem_Word_ok (by omega) (s_sp (w_s H)) (fun t h1 u1 => ⟨_, _, rfl, iF rfl (hK h1 u1)⟩) fun hn => absurd (.inr ⟨by omega, by omega⟩) hn⟩⟩

theorem Lnk_last {a : Int} {w j : Nat} : ∀ {l : List Nat}, Lnk c x.st a w (l ++ [j]) → x.st.rd c (a + ((j * w : Nat) : Int)) = 0
  | [], H => H.1
  | _ :: l, H => Lnk_last (l := l) H.2

theorem pgA_at {m : MS} {i : Nat} (hi : i < m.n) : pgA m (i : Int) = m.pg i := by
  unfold pgA
  rw [if_pos ⟨by omega, by omega⟩, Int.toNat_natCast]

theorem ptL_of (I : SI c x hp S fl L cl fr pl) {f : Nat → List Nat} (e : ∀ k, k < 8 → pl k = f k) : ptL hp = (List.range 8).map fun k => hdE (f k) (-1) := by
  unfold ptL
  refine List.map_congr_left fun k hk => ?_
  rw [I.hd k (List.mem_range.1 hk), e k (List.mem_range.1 hk)]
end

abbrev pgE (P : Nat → Int) : List Value := [.int .i64 (P 0), .int .i64 (P 1), .int .i64 (P 2), .int .i64 (P 3), .int .i64 (P 4), .int .i64 (P 5), .int .i64 (P 6), .int .u64 (P 7), .int .u64 (P 8), .int .u64 (P 9), .int .u64 (P 10)]

set_option maxHeartbeats 1000000 in
theorem SlabKnown_law {w : World} (T0 : Tab w.heap) :
    CallV Tryd.prog w F.croftlaw7_SlabKnown [] w.heap fun v h' => v = .bool true ∧ Upd NoB w.heap h' := by
  have hfin : ∀ h', Upd NoB w.heap h' → (fun (r : Value) (h' : Heap) => r = Value.bool true ∧ Upd NoB w.heap h') (.bool true) h' := fun h' u => ⟨rfl, u⟩
  generalize (fun (r : Value) (h' : Heap) => r = Value.bool true ∧ Upd NoB w.heap h') = K at hfin ⊢
  refine croftlaw7_SlabKnown.call ?_
  unfold croftlaw7_SlabKnown.vc
  refine beginX (by unfold U64; omega) fun h1 wb Q1 dl hl N1 => ⟨_, rfl, fun J2 hJ2 => pF rfl ?_⟩
  rw [usual7_C7] at N1
  have I0 : SI C7 (BU0 C7) (fun _ => -1) noS (fun _ => []) [] (fun _ => 0) (fun _ => []) (fun _ => []) := si0 good1 (fun _ => 0) (fun _ => [])
  have bo : (BU0 C7).m.o = 1 := bu7_o
  have bn : (BU0 C7).m.n = 0 := rfl
  have bs : (BU0 C7).st.n = 0 := rfl
  generalize BU0 C7 = x0 at N1 I0 bo bn bs
  have G1 := (Hold.nil w.heap).new N1
  refine lives7_ok (T0.upd G1.u id) fun h2 u2 => ⟨_, rfl, hJ2 _ _ (iF rfl ?_)⟩
  have G2 : Hold w.heap h2 [w7R C7 wb dl Q1 x0 fun _ => -1] := G1.quiet u2
  have H2 := G2.at 0
  have w7 : wdt 7 = 2048 := by decide
  have n7 : cnt 7 = 2 := by decide
  have w0 : wdt 0 = 16 := by decide
  have n0 : cnt 0 = 256 := by decide
  have adr7 : ∀ q : Nat, adr C7 q = 65536 + ((4096 * q : Nat) : Int) := fun q => by show (65536 : Int) + 4096 * (q : Int) = _; omega
  refine ⟨_, rfl, _, w_c4 H2, take_no (.inr (by omega)) ⟨_, _, _, rfl, _, rfl, _, w_c4 H2, take_no (.inl (by omega)) ⟨_, _, _, rfl, fun J5 hJ5 => pF rfl (hJ5 _ _ fun J6 hJ6 => pF rfl (hJ6 _ _ fun J7 hJ7 => pF rfl (hJ7 _ _ fun J8 hJ8 => pF rfl ⟨_, rfl, _, w_c4 H2, parts_ok H2 rfl fun h3 u3 => hJ8 _ _ (iF rfl ?_)⟩)))⟩⟩⟩
  have G3 := G2.quiet u3
  -- the first page
  refine ⟨_, rfl, _, w_c4 (G3.at 0), takeX (k := 7) (deny := false) I0 (TabH.of T0 G3 0) (G3.at 0) (by omega) (fun q l' j f e => (by cases e)) (fun _ _ hd _ _ _ _ => absurd hd (by rw [bs]; decide)) (fun _ q b fl' x1 hp1 h4 Q2 q2 hcase I1 o1 _ S1 => ?_)⟩
  rcases hcase with ⟨_, j, l, _, hF, _⟩ | ⟨rfl, _, _, _, rfl, efl, n3, s3⟩
  · cases hF
  have G4 := G3.step 0 S1
  rw [bn, bo] at efl
  rw [bn] at I1
  have fl0 : fl' 0 = [1] := by
    rw [efl]
    show fset (fset (fun _ => []) 1 []) (0 + 0) ((0 + 2 ^ (0 + 0)) :: fset (fun _ => []) 1 [] (0 + 0)) 0 = _
    rw [Nat.zero_add, fset_same, fset_ne _ _ (by omega : (0 : Nat) ≠ 1)]
  have fl1 : fl' 1 = [] := by
    rw [efl]
    show fset (fset (fun _ => []) 1 []) (0 + 0) ((0 + 2 ^ (0 + 0)) :: fset (fun _ => []) 1 [] (0 + 0)) 1 = _
    rw [Nat.zero_add, fset_ne _ _ (by omega : (1 : Nat) ≠ 0), fset_same]
  have mo1 : x1.m.o = 1 := by rw [o1]; exact bo
  have mn1 : x1.m.n = 2 := by rw [n3, bn, bo]
  have sn1 : x1.st.n = 1 := by rw [s3, bs]
  have cl0 : fset (fun _ : Nat => 0) 0 7 0 = 7 := fset_same _ _ _
  have fr0 : fset (fun _ : Nat => ([] : List Nat)) 0 (List.range' 1 (cnt 7 - 1)) 0 = [1] := by rw [fset_same, n7]; rfl
  have pl7 : fset (fun _ : Nat => ([] : List Nat)) 7 [0] 7 = [0] := fset_same _ _ _
  have plo : ∀ k, k ≠ 7 → fset (fun _ : Nat => ([] : List Nat)) 7 [0] k = [] := fun k hk => fset_ne _ _ hk
  clear efl
  obtain ⟨Sa, hSa⟩ : ∃ Sa : Nat → Prop, (fun p => noS p ∨ p = 0) = Sa := ⟨_, rfl⟩
  rw [hSa] at I1
  have hS1 : ∀ p, Sa p ↔ p = 0 := fun p => by rw [← hSa]; exact ⟨fun h => h.elim False.elim id, .inr⟩
  generalize fset (fun _ : Nat => 0) 0 7 = cl at I1 cl0
  generalize fset (fun _ : Nat => ([] : List Nat)) 0 (List.range' 1 (cnt 7 - 1)) = fr at I1 fr0
  generalize fset (fun _ : Nat => ([] : List Nat)) 7 [0] = pl at I1 pl7 plo
  rw [show adr C7 x0.m.n = 65536 by rw [bn]; rfl]
  refine ⟨_, _, _, rfl, _, rfl, _, w_c4 (G4.at 0), takeX (k := 7) (deny := false) I1 (TabH.of T0 G4 0) (G4.at 0) (by omega) (fun q l' j f e1 e2 x2 hp2 h5 Q3 q3 I2 st2 n2 o2 S2 => ?_) (fun e => by rw [pl7] at e; cases e) (fun e => by rw [pl7] at e; cases e)⟩
  rw [pl7] at e1; cases e1; rw [fr0] at e2; cases e2
  have G5 := G4.step 0 S2
  have fr0 : fset fr 0 [] 0 = [] := fset_same _ _ _
  have pl7 : fset pl 7 (if ([] : List Nat) = [] then [] else [0]) 7 = [] := by rw [fset_same, if_pos rfl]
  have plo : ∀ k, k ≠ 7 → fset pl 7 (if ([] : List Nat) = [] then [] else [0]) k = [] := fun k hk => by rw [fset_ne _ _ hk]; exact plo k hk
  generalize fset fr 0 [] = fr at I2 fr0
  generalize fset pl 7 (if ([] : List Nat) = [] then [] else [0]) = pl at I2 pl7 plo
  have mo2 : x2.m.o = 1 := by rw [o2]; exact mo1
  have mn2 : x2.m.n = 2 := by rw [n2]; exact mn1
  have sn2 : x2.st.n = 1 := by rw [st2]; exact sn1
  rw [show adr C7 0 + ((1 * wdt 7 : Nat) : Int) = 67584 by rw [w7]; rfl]
  -- the second page
  refine ⟨_, _, _, rfl, _, rfl, _, w_c4 (G5.at 0), takeX (k := 7) (deny := true) I2 (TabH.of T0 G5 0) (G5.at 0) (by omega) (fun q l' j f e => by rw [pl7] at e; cases e) (fun _ e => by have := e 0 (by omega); rw [fl0] at this; cases this) (fun _ q b fl3 x3 hp3 h6 Q4 q4 hcase I3 o3 _ S3 => ?_)⟩
  rcases hcase with ⟨rfl, j, l, hj, hF, hno, efl, n3', s3'⟩ | ⟨_, _, hd, _⟩
  case inr => cases hd
  have hj0 : j = 0 := Classical.byContradiction fun hne => by have := hno 0 (by omega); rw [fl0] at this; cases this
  subst hj0
  rw [fl0] at hF
  cases hF
  have efl : fl3 = fset fl' 0 [] := efl
  have fl30 : fl3 0 = [] := by rw [efl, fset_same]
  have fl31 : fl3 1 = [] := by rw [efl, fset_ne _ _ (by omega)]; exact fl1
  have G6 := G5.step 0 S3
  obtain ⟨S, hSe⟩ : ∃ S : Nat → Prop, (fun p => Sa p ∨ p = 1) = S := ⟨_, rfl⟩
  rw [hSe] at I3
  have hS : ∀ p, S p ↔ p = 0 ∨ p = 1 := fun p => by rw [← hSe]; show (Sa p ∨ p = 1) ↔ _; rw [hS1]
  have clS : ∀ p, (p = 0 ∨ p = 1) → fset cl 1 7 p = 7 := fun p hp => by
    rcases hp with rfl | rfl
    · rw [fset_ne _ _ (by omega)]; exact cl0
    · exact fset_same _ _ _
  have fr1 : fset fr 1 (List.range' 1 (cnt 7 - 1)) 1 = [1] := by rw [fset_same, n7]; rfl
  have fr0 : fset fr 1 (List.range' 1 (cnt 7 - 1)) 0 = [] := by rw [fset_ne _ _ (by omega)]; exact fr0
  have pl7 : fset pl 7 [1] 7 = [1] := fset_same _ _ _
  have plo : ∀ k, k ≠ 7 → fset pl 7 [1] k = [] := fun k hk => by rw [fset_ne _ _ hk]; exact plo k hk
  generalize fset cl 1 7 = cl at I3 clS
  generalize fset fr 1 (List.range' 1 (cnt 7 - 1)) = fr at I3 fr0 fr1
  generalize fset pl 7 [1] = pl at I3 pl7 plo
  have mo3 : x3.m.o = 1 := by rw [o3]; exact mo2
  have mn3 : x3.m.n = 2 := by rw [n3']; exact mn2
  have sn3 : x3.st.n = 1 := by rw [s3']; exact sn2
  have all3 : ∀ j, j ≤ x3.m.o → fl3 j = [] := fun j hj => by
    have : j = 0 ∨ j = 1 := by omega
    rcases this with rfl | rfl
    · exact fl30
    · exact fl31
  rw [show adr C7 1 = 69632 by rfl]
  refine ⟨_, _, _, rfl, _, rfl, _, w_c4 (G6.at 0), takeX (k := 6) (deny := false) I3 (TabH.of T0 G6 0) (G6.at 0) (by omega) (fun q l' j f e => by rw [plo 6 (by omega)] at e; cases e) (fun _ _ _ h7 Q5 q5 S4 => ?_) (fun _ q b fl4 x4 hp4 h7 Q5 q5 hcase => ?_)⟩
  case refine_2 =>
    rcases hcase with ⟨_, j, l, hj, hF, _⟩ | ⟨_, _, _, hlt, _⟩
    · rw [all3 j hj] at hF; cases hF
    · rw [sn3] at hlt; exact absurd hlt (by decide)
  have G7 := G6.step 0 S4
  -- where a cell lies
  have at7 : ∀ q j, S q → j < cnt (cl q) → adr C7 q + ((j * wdt (cl q) : Nat) : Int) = 65536 + ((4096 * q + j * 2048 : Nat) : Int) ∧ j < 2 ∧ q < 2 := fun q j hq hj => by
    rw [clS q ((hS q).1 hq), n7] at hj
    rw [clS q ((hS q).1 hq), w7, adr7]
    have := (hS q).1 hq
    exact ⟨by omega, by omega, by omega⟩
  refine ⟨_, _, _, rfl, fun J13 hJ13 => pF rfl (hJ13 _ _ fun J14 hJ14 => pF rfl (hJ14 _ _ fun J15 hJ15 => pF rfl (hJ15 _ _ fun J16 hJ16 => pF rfl (hJ16 _ _ fun J17 hJ17 => pF rfl (hJ17 _ _ fun J18 hJ18 => pF rfl (hJ18 _ _ fun J19 hJ19 => pF rfl ⟨_, rfl, _, w_c4 (G7.at 0), ?_⟩))))))⟩
  refine sizeX (by unfold U64; omega) I3 (TabH.of T0 G7 0) (G7.at 0) (fun _ h8 u8 => ⟨_, rfl, hJ19 _ _ (iF rfl ?_)⟩) fun q j hq hj hnj ea => ?_
  case refine_2 =>
    obtain ⟨e1, e2, e3⟩ := at7 q j hq hj
    have hq1 : q = 1 := by omega
    have hj1 : j = 1 := by omega
    rw [hq1, hj1, fr1] at hnj
    exact absurd (List.mem_cons_self ..) hnj
  have G8 := G7.quiet u8
  -- a comes back
  have S0 : S 0 := (hS 0).2 (.inl rfl)
  have hp0 : cl 0 = 7 := clS 0 (.inl rfl)
  refine ⟨_, rfl, _, w_c4 (G8.at 0), giveX (by unfold U64; omega) I3 (TabH.of T0 G8 0) (G8.at 0) (fun hn => ?_) (fun q j hq hj hnj ea hlt x4 hp4 h9 I4 n4 o4 s4 hM4 S5 => ?_) (fun q j L' hq hj hnj ea hle => ?_)⟩
  case refine_1 => exact absurd (by rw [hp0]; rfl) (hn 0 0 S0 (by rw [hp0, n7]; omega) (by rw [fr0]; simp))
  case refine_3 =>
    obtain ⟨e1, e2, e3⟩ := at7 q j hq hj
    have hq0 : q = 0 := by omega
    subst hq0
    rw [fr0, hp0, n7] at hle
    exact absurd hle (by decide)
  obtain ⟨e1, e2, e3⟩ := at7 q j hq hj
  have hq0 : q = 0 := by omega
  have hj0 : j = 0 := by omega
  subst hq0 hj0
  rw [hp0] at I4
  have G9 := G8.step 0 S5
  have fr1 : fset fr 0 (0 :: fr 0) 1 = [1] := by rw [fset_ne _ _ (by omega)]; exact fr1
  have pl7 : fset pl 7 (if fr 0 = [] then 0 :: pl 7 else pl 7) 7 = [0, 1] := by rw [fset_same, if_pos fr0, pl7]
  have plo : ∀ k, k ≠ 7 → fset pl 7 (if fr 0 = [] then 0 :: pl 7 else pl 7) k = [] := fun k hk => by rw [fset_ne _ _ hk]; exact plo k hk
  have fr0 : fset fr 0 (0 :: fr 0) 0 = [0] := by rw [fset_same, fr0]
  generalize fset pl 7 (if fr 0 = [] then 0 :: pl 7 else pl 7) = pl at I4 pl7 plo
  generalize fset fr 0 (0 :: fr 0) = fr at I4 fr0 fr1
  refine ⟨_, rfl, fun J21 hJ21 => pF rfl ⟨_, rfl, _, w_c4 (G9.at 0), ?_⟩⟩
  refine giveX (by unfold U64; omega) I4 (TabH.of T0 G9 0) (G9.at 0) (fun _ h10 S6 => ⟨_, rfl, hJ21 _ _ fun J22 hJ22 => pF rfl ?_⟩) (fun q j hq hj hnj ea => ?_) (fun q j L' hq hj hnj ea => ?_)
  case refine_2 =>
    obtain ⟨e1, e2, e3⟩ := at7 q j hq hj
    have hq0 : q = 0 := by omega
    have hj0 : j = 0 := by omega
    rw [hq0, hj0, fr0] at hnj
    exact absurd (List.mem_cons_self ..) hnj
  case refine_3 =>
    obtain ⟨e1, e2, e3⟩ := at7 q j hq hj
    have hq0 : q = 0 := by omega
    have hj0 : j = 0 := by omega
    rw [hq0, hj0, fr0] at hnj
    exact absurd (List.mem_cons_self ..) hnj
  have G10 := G9.step 0 S6
  refine ⟨_, rfl, _, w_c4 (G10.at 0), ?_⟩
  rw [show IntKind.wrap .u64 ((65536 : Int) + 1) = 65537 by rw [wU (by unfold U64; omega)]; omega]
  refine giveX (by unfold U64; omega) I4 (TabH.of T0 G10 0) (G10.at 0) (fun _ h11 S7 => ⟨_, rfl, hJ22 _ _ fun J23 hJ23 => pF rfl ?_⟩) (fun q j hq hj hnj ea => ?_) (fun q j L' hq hj hnj ea => ?_)
  case refine_2 =>
    obtain ⟨e1, e2, e3⟩ := at7 q j hq hj
    omega
  case refine_3 =>
    obtain ⟨e1, e2, e3⟩ := at7 q j hq hj
    omega
  have G11 := G10.step 0 S7
  have mn4 : x4.m.n = 2 := by rw [n4]; exact mn3
  have mo4 : x4.m.o = 1 := by rw [o4]; exact mo3
  have sn4 : x4.st.n = 1 := by rw [s4]; exact sn3
  refine word7_ok (a := 0) (p := 65536) (v := 0) I4 (G11.at 0) (by show (65536 : Int) = 65536 + ((0 : Nat) : Int); omega) (by omega) ?_ fun h12 u12 => ⟨_, rfl, hJ23 _ _ fun J24 hJ24 => pF rfl ⟨_, rfl, _, w_c4 ((G11.quiet u12).at 0), ?_⟩⟩
  · have := I4.lk 0 S0
    rw [fr0, hp0, w7] at this
    have := Lnk_last (l := []) this
    rwa [show adr C7 0 + ((0 * 2048 : Nat) : Int) = 65536 by rw [adr7]; omega] at this
  have G12 := G11.quiet u12
  refine parts_ok (G12.at 0) (by
    rw [ptL_of I4 (f := fun k => if k = 7 then [0, 1] else []) fun k hk => ?_]
    · rfl
    · by_cases e : k = 7
      · subst e; rw [if_pos rfl]; exact pl7
      · rw [if_neg e]; exact plo k e) fun h13 u13 => hJ24 _ _ (iF rfl ?_)
  have G13 := G12.quiet u13
  -- what the pages say
  have P0 := I4.pg 0 S0
  have S1' : S 1 := (hS 1).2 (.inr rfl)
  have hp1' : cl 1 = 7 := clS 1 (.inr rfl)
  have P1 := I4.pg 1 S1'
  have l3 : x4.m.pg 0 3 = 1 := by rw [P0.k3, hp0, fr0, n7]; rfl
  have l6 : x4.m.pg 0 6 = 0 := by rw [P0.k6, fr0]; rfl
  have r6 : x4.m.pg 1 6 = 1 := by rw [P1.k6, fr1]; rfl
  have CH := I4.ch 7 (by omega)
  rw [pl7] at CH
  obtain ⟨l5, l4, r5, _, _⟩ := CH
  have l4 : x4.m.pg 0 4 = 1 := l4
  refine ⟨_, rfl, _, w_c3 (G13.at 0), _, rfl, ground_Map_ok (s_pl (w_s (G13.at 0))) ⟨_, rfl, at_ok (s_mp (w_s (G13.at 0))) fun b0 h14 u14 => ?_⟩⟩
  rw [show pgA x4.m 0 = x4.m.pg 0 from pgA_at (i := 0) (by omega)]
  refine ⟨_, _, _, _, _, _, _, _, _, _, _, _, rfl, ?_⟩
  have N14 := box_l h14 zpL T.T_api_Page
  generalize Array.push h14 (.cells #[(.int .i64 (0 : Int)), (.int .i64 (0 : Int)), (.int .i64 (0 : Int)), (.int .i64 (0 : Int)), (.int .i64 (0 : Int)), (.int .i64 (0 : Int)), (.int .i64 (0 : Int)), (.int .u64 (0 : Int)), (.int .u64 (0 : Int)), (.int .u64 (0 : Int)), (.int .u64 (0 : Int))] T.T_api_Page) = h15 at N14 ⊢
  obtain ⟨bx, ebx⟩ : ∃ bx, bx = Array.size h14 := ⟨_, rfl⟩
  rw [← ebx] at N14 ⊢
  have G15 := (G13.quiet u14).new N14
  obtain ⟨w16, S16⟩ := assign_l (G15.at 0) (pgE (x4.m.pg 0))
  have G16 := G15.step 0 S16
  refine ⟨w16, ?_⟩
  generalize setCs h15 (⟨bx, 0, none⟩ : Addr) 0 (pgE (x4.m.pg 0)) = h16 at G16 ⊢
  have G16 : Hold w.heap h16 [lR bx (pgE (x4.m.pg 0)), w7R C7 wb dl Q5 x4 hp4] := G16
  refine ⟨_, rfl, _, w_c3 (G16.at 1), _, rfl, ground_Map_ok (s_pl (w_s (G16.at 1))) ⟨_, rfl, at_ok (s_mp (w_s (G16.at 1))) fun b1 h17 u17 => ?_⟩⟩
  rw [show pgA x4.m 1 = x4.m.pg 1 from pgA_at (i := 1) (by omega)]
  refine ⟨_, _, _, _, _, _, _, _, _, _, _, _, rfl, ?_⟩
  have N17 := box_l h17 zpL T.T_api_Page
  generalize Array.push h17 (.cells #[(.int .i64 (0 : Int)), (.int .i64 (0 : Int)), (.int .i64 (0 : Int)), (.int .i64 (0 : Int)), (.int .i64 (0 : Int)), (.int .i64 (0 : Int)), (.int .i64 (0 : Int)), (.int .u64 (0 : Int)), (.int .u64 (0 : Int)), (.int .u64 (0 : Int)), (.int .u64 (0 : Int))] T.T_api_Page) = h18 at N17 ⊢
  obtain ⟨by', eby⟩ : ∃ by', by' = Array.size h17 := ⟨_, rfl⟩
  rw [← eby] at N17 ⊢
  have G18 := (G16.quiet u17).new N17
  obtain ⟨w19, S19⟩ := assign_l (G18.at 0) (pgE (x4.m.pg 1))
  have G19 := G18.step 0 S19
  refine ⟨w19, ?_⟩
  generalize setCs h18 (⟨by', 0, none⟩ : Addr) 0 (pgE (x4.m.pg 1)) = h19 at G19 ⊢
  have G19 : Hold w.heap h19 [lR by' (pgE (x4.m.pg 1)), lR bx (pgE (x4.m.pg 0)), w7R C7 wb dl Q5 x4 hp4] := G19
  refine ⟨_, cell_l (G19.at 1) 3, fun J33 hJ33 => pF (by rw [l3]; rfl) ⟨_, cell_l (G19.at 1) 6, hJ33 _ _ fun J34 hJ34 => pF (by rw [l6]; rfl) ⟨_, cell_l (G19.at 1) 4, hJ34 _ _ fun J35 hJ35 => pF (by rw [l4]; rfl) ⟨_, cell_l (G19.at 1) 5, hJ35 _ _ fun J36 hJ36 => pF (by rw [l5]; rfl)
    ⟨_, cell_l (G19.at 0) 5, hJ36 _ _ fun J37 hJ37 => pF (by rw [r5]; rfl) ⟨_, cell_l (G19.at 0) 6, hJ37 _ _ fun J38 hJ38 => pF (by rw [r6]; rfl) ⟨_, rfl, _, w_c4 (G19.at 2), ?_⟩⟩⟩⟩⟩⟩⟩
  have G20 : Hold w.heap h19 [lR bx (pgE (x4.m.pg 0)), w7R C7 wb dl Q5 x4 hp4] := G19.drop
  -- b comes back: its page goes
  refine giveX (by unfold U64; omega) I4 (TabH.of T0 G20 1) (G20.at 1) (fun hn => ?_) (fun q j hq hj hnj ea hlt => ?_) (fun q j L' hq hj hnj ea hle hL x5 hp5 h21 I5 n5 o5 hk5 S8 => ?_)
  case refine_1 => exact absurd (by rw [hp0, w7, adr7]; omega) (hn 0 1 S0 (by rw [hp0, n7]; omega) (by rw [fr0]; simp))
  case refine_2 =>
    obtain ⟨e1, e2, e3⟩ := at7 q j hq hj
    have hq0 : q = 0 := by omega
    subst hq0
    rw [fr0, hp0, n7] at hlt
    exact absurd hlt (by decide)
  obtain ⟨e1, e2, e3⟩ := at7 q j hq hj
  have hq0 : q = 0 := by omega
  have hj1 : j = 1 := by omega
  subst hq0 hj1
  rw [hp0, mo4] at I5
  have afl0 : aUp fl3 0 0 1 0 = [0] := by
    show (if bud 0 0 ∈ fl3 0 then _ else fset fl3 0 (0 :: fl3 0)) 0 = _
    rw [fl30, if_neg (by simp), fset_same]
  have pl7 : fset pl 7 ((pl 7).filter (· ≠ 0)) 7 = [1] := by rw [fset_same, pl7]; rfl
  have plo : ∀ k, k ≠ 7 → fset pl 7 ((pl 7).filter (· ≠ 0)) k = [] := fun k hk => by rw [fset_ne _ _ hk]; exact plo k hk
  generalize fset pl 7 ((pl 7).filter (· ≠ 0)) = pl at I5 pl7 plo
  generalize aUp fl3 0 0 1 = fl5 at I5 afl0
  generalize fset fr 0 [] = fr5 at I5
  have G21 := G20.step 1 S8
  have mo5 : x5.m.o = 1 := by rw [o5]; exact mo4
  have mn5 : x5.m.n = 2 := by rw [n5]; exact mn4
  refine ⟨_, rfl, hJ38 _ _ fun J39 hJ39 => pF rfl ⟨_, rfl, _, w_c4 (G21.at 1), parts_ok (G21.at 1) (by
    rw [ptL_of I5 (f := fun k => if k = 7 then [1] else []) fun k hk => ?_]
    · rfl
    · by_cases e : k = 7
      · subst e; rw [if_pos rfl]; exact pl7
      · rw [if_neg e]; exact plo k e) fun h22 u22 => hJ39 _ _ (iF rfl ?_)⟩⟩
  have G22 := G21.quiet u22
  -- it is cut anew
  refine ⟨_, rfl, _, w_c4 (G22.at 1), takeX (k := 0) (deny := true) I5 (TabH.of T0 G22 1) (G22.at 1) (by omega) (fun q l' j f e => by rw [plo 0 (by omega)] at e; cases e) (fun _ e => by have := e 0 (by omega); rw [afl0] at this; cases this) (fun _ q b fl6 x6 hp6 h23 Q6 q6 hcase I6 o6 _ S9 => ?_)⟩
  rcases hcase with ⟨rfl, j, l, hj, hF, hno, _, n6, s6⟩ | ⟨_, _, hd, _⟩
  case inr => cases hd
  have hj0 : j = 0 := Classical.byContradiction fun hne => by have := hno 0 (by omega); rw [afl0] at this; cases this
  subst hj0
  rw [afl0] at hF
  cases hF
  have G23 := G22.step 1 S9
  have mn6 : x6.m.n = 2 := by rw [n6]; exact mn5
  obtain ⟨S6, hS6⟩ : ∃ S6 : Nat → Prop, (fun p => (S p ∧ p ≠ 0) ∨ p = 0) = S6 := ⟨_, rfl⟩
  rw [hS6] at I6
  have hS6 : ∀ p, S6 p → p = 0 ∨ p = 1 := fun p hp => by
    rw [← hS6] at hp
    rcases hp with ⟨h1, _⟩ | h1
    · exact (hS p).1 h1
    · exact .inl h1
  have S60 : S6 0 := by
    have : (fun p => (S p ∧ p ≠ 0) ∨ p = 0) = S6 := by assumption
    rw [← this]; exact .inr rfl
  have cl60 : fset cl 0 0 0 = 0 := fset_same _ _ _
  have fr60 : fset fr5 0 (List.range' 1 (cnt 0 - 1)) 0 = List.range' 1 255 := by rw [fset_same, n0]
  have pl60 : fset pl 0 [0] 0 = [0] := fset_same _ _ _
  generalize fset cl 0 0 = cl at I6 cl60
  generalize fset fr5 0 (List.range' 1 (cnt 0 - 1)) = fr at I6 fr60
  generalize fset pl 0 [0] = pl at I6 pl60
  rw [show adr C7 0 = 65536 by rfl]
  refine ⟨_, _, _, rfl, _, rfl, _, w_c4 (G23.at 1), takeX (k := 0) (deny := true) I6 (TabH.of T0 G23 1) (G23.at 1) (by omega) (fun q l' j f e1 e2 x7 hp7 h24 Q7 q7 I7 st7 n7' o7 S10 => ?_) (fun e => by rw [pl60] at e; cases e) (fun e => by rw [pl60] at e; cases e)⟩
  rw [pl60] at e1; cases e1; rw [fr60, List.range'_succ] at e2; cases e2
  have G24 := G23.step 1 S10
  have mn7 : x7.m.n = 2 := by rw [n7']; exact mn6
  have pl70 : fset pl 0 (if List.range' (1 + 1) 254 = [] then [] else [0]) 0 = [0] := by rw [fset_same, if_neg (by simp)]
  have fr70 : fset fr 0 (List.range' (1 + 1) 254) 0 = List.range' 2 254 := fset_same _ _ _
  generalize fset pl 0 (if List.range' (1 + 1) 254 = [] then [] else [0]) = pl at I7 pl70
  generalize fset fr 0 (List.range' (1 + 1) 254) = fr at I7 fr70
  rw [show adr C7 0 + ((1 * wdt 0 : Nat) : Int) = 65552 by rw [w0]; rfl]
  refine ⟨_, _, _, rfl, _, rfl, _, w_c3 (G24.at 1), _, rfl, ground_Map_ok (s_pl (w_s (G24.at 1))) ⟨_, rfl, at_ok (s_mp (w_s (G24.at 1))) fun b2 h25 u25 => ?_⟩⟩
  rw [show pgA x7.m 0 = x7.m.pg 0 from pgA_at (i := 0) (by omega)]
  refine ⟨_, _, _, _, _, _, _, _, _, _, _, _, rfl, ?_⟩
  have G25 := G24.quiet u25
  obtain ⟨w26, S26⟩ := assign_l (G25.at 0) (pgE (x7.m.pg 0))
  have G26 := G25.step 0 S26
  refine ⟨w26, ?_⟩
  generalize setCs h25 (⟨bx, 0, none⟩ : Addr) 0 (pgE (x7.m.pg 0)) = h26 at G26 ⊢
  have G26 : Hold w.heap h26 [lR bx (pgE (x7.m.pg 0)), w7R C7 wb dl Q7 x7 hp7] := G26
  have P7 := I7.pg 0 S60
  have k0 := P7.k0
  have k2 : x7.m.pg 0 2 = 0 := by rw [P7.k2, cl60]; rfl
  have k3 : x7.m.pg 0 3 = 2 := by rw [P7.k3, cl60, fr70, n0, List.length_range']; rfl
  have k6 : x7.m.pg 0 6 = 2 := by rw [P7.k6, fr70]; rfl
  have LK := I7.lk 0 S60
  rw [cl60, fr70, w0] at LK
  refine fun J45 hJ45 => pF rfl (hJ45 _ _ fun J46 hJ46 => pF rfl ⟨_, cell_l0 (G26.at 0), hJ46 _ _ fun J47 hJ47 => pF (by rw [k0]; rfl) ⟨_, cell_l (G26.at 0) 2, hJ47 _ _ fun J48 hJ48 => pF (by rw [k2]; rfl) ⟨_, cell_l (G26.at 0) 3, hJ48 _ _ fun J49 hJ49 => pF (by rw [k3]; rfl) ⟨_, cell_l (G26.at 0) 6, hJ49 _ _ fun J50 hJ50 => pF (by rw [k6]; rfl) ?_⟩⟩⟩⟩)
  refine word7_ok (a := 32) (p := 65568) (v := 65584) I7 (G26.at 1) (by show (65568 : Int) = 65536 + ((32 : Nat) : Int); omega) (by omega) ?_ fun h27 u27 => ⟨_, rfl, hJ50 _ _ fun J51 hJ51 => pF rfl ?_⟩
  · have := LK.1
    rw [show adr C7 0 + ((2 * 16 : Nat) : Int) = 65568 by rw [adr7]; omega] at this
    rw [this]
    show adr C7 0 + ((3 * 16 : Nat) : Int) = 65584
    rw [adr7]; omega
  have G27 := G26.quiet u27
  refine word7_ok (a := 4080) (p := 69616) (v := 0) I7 (G27.at 1) (by show (69616 : Int) = 65536 + ((4080 : Nat) : Int); omega) (by omega) ?_ fun h28 u28 => ⟨_, rfl, hJ51 _ _ fun J52 hJ52 => pF rfl ⟨_, rfl, _, w_c4 ((G27.quiet u28).at 1), ?_⟩⟩
  · have e : List.range' 2 254 = List.range' 2 253 ++ [255] := List.range'_concat ..
    rw [e] at LK
    have := Lnk_last LK
    rwa [show adr C7 0 + ((255 * 16 : Nat) : Int) = 69616 by rw [adr7]; omega] at this
  have G28 := G27.quiet u28
  have hno : (0 : Nat) ∉ List.range' 2 254 := by rw [List.mem_range'_1]; omega
  refine giveX (by unfold U64; omega) I7 (TabH.of T0 G28 1) (G28.at 1) (fun hn => ?_) (fun q j hq hj hnj ea hlt x8 hp8 h29 I8 n8 o8 s8 hM8 S11 => ?_) (fun q j L' hq hj hnj ea hle => ?_)
  case refine_1 => exact absurd (by rw [cl60, w0, adr7]; omega) (hn 0 0 S60 (by rw [cl60, n0]; omega) (by rw [fr70]; exact hno))
  case refine_3 =>
    have hq0 : q = 0 := by
      rcases hS6 q hq with e | e
      · exact e
      · subst e; rw [adr7] at ea; omega
    subst hq0
    rw [cl60, fr70, n0, List.length_range'] at hle
    omega
  have hq0 : q = 0 := by
    rcases hS6 q hq with e | e
    · exact e
    · subst e; rw [adr7] at ea; omega
  subst hq0
  rw [cl60, w0, adr7] at ea
  have hj0 : j = 0 := by omega
  subst hj0
  rw [cl60] at I8
  have G29 := G28.step 1 S11
  have pl80 : fset pl 0 (if fr 0 = [] then 0 :: pl 0 else pl 0) 0 = [0] := by rw [fset_same, if_neg (by rw [fr70]; simp), pl70]
  have fr80 : fset fr 0 (0 :: fr 0) 0 = 0 :: List.range' 2 254 := by rw [fset_same, fr70]
  refine ⟨_, rfl, hJ52 _ _ (iF rfl ⟨_, rfl, _, w_c4 (G29.at 1), ?_⟩)⟩
  refine takeX (k := 0) (deny := true) I8 (TabH.of T0 G29 1) (G29.at 1) (by omega) (fun q l' j f e1 e2 x9 hp9 h30 Q9 q9 I9 _ _ _ S12 => ?_) (fun e => by rw [pl80] at e; cases e) (fun e => by rw [pl80] at e; cases e)
  rw [pl80] at e1; cases e1; rw [fr80] at e2; cases e2
  refine ⟨_, _, _, rfl, ?_⟩
  rw [show adr C7 0 + ((0 * wdt 0 : Nat) : Int) = 65536 by rw [w0, adr7]; omega]
  exact hfin _ (G29.step 1 S12).u
end Go.Proofs.YteemmpkhdllapaaDoor
