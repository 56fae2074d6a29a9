/- croftlaw6: RegionSame, RegionNews. No condition. -/
import Derived.Test.YtippbfnhgooepaaC2
set_option linter.unusedSimpArgs false
set_option linter.unusedVariables false
namespace Go.Proofs.Ytippbfnhgooepaa
open Go.V Classical

theorem aCut_at {page to : Nat} : ∀ (d : Nat) (f : Nat → List Nat) (k : Nat), aCut page to f d k = if to ≤ k ∧ k < to + d then (page + 2 ^ k) :: f k else f k
  | 0, f, k => by unfold aCut; rw [if_neg (by omega)]
  | d + 1, f, k => by
    unfold aCut
    rw [aCut_at d]
    by_cases e : k = to + d
    · subst e
      rw [if_neg (by omega), fset_same, if_pos (by omega)]
    · rw [fset_ne _ _ e]
      by_cases h : to ≤ k ∧ k < to + d
      · rw [if_pos h, if_pos (by omega)]
      · rw [if_neg h, if_neg (by omega)]

theorem ptr_same {a b : Nat} {K : Bool → Prop} (e : b = a) (hK : K true) : ptrF (some ⟨a, 0, none⟩) (some ⟨b, 0, none⟩) true K := by
  subst e
  exact ⟨rfl, rfl, hK⟩

theorem RegionSame_law {w : World} {a b d : Int} (ha : (Lit.int .u64 a).wf = true) (hb : (Lit.int .i64 b).wf = true) (hd : (Lit.int .i64 d).wf = true) :
    CallV Try.prog w F.croftlaw6_RegionSame [.agg #[.int .u64 a, .int .i64 b, .int .i64 d]] w.heap fun v h' => v = .bool true ∧ Upd NoB w.heap h' := by
  have hfin : ∀ h', Upd NoB w.heap h' → (fun (r : Value) (h' : Heap) => r = Value.bool true ∧ Upd NoB w.heap h') (.bool true) h' := fun h' u => ⟨rfl, u⟩
  generalize (fun (r : Value) (h' : Heap) => r = Value.bool true ∧ Upd NoB w.heap h') = K at hfin ⊢
  refine croftlaw6_RegionSame.call ?_
  unfold croftlaw6_RegionSame.vc
  have N0 := box3 w.heap (.int .u64 a) (.int .i64 b) (.int .i64 d) T.T_api_Config
  generalize Array.push w.heap (.cells #[.int .u64 a, .int .i64 b, .int .i64 d] T.T_api_Config) = h0 at N0 ⊢
  have I0 := (Hold.nil w.heap).new N0
  refine awake6_ok fun h1 u1 => ⟨_, rfl, iF rfl ?_⟩
  have I1 := I0.quiet u1
  obtain ⟨k0, k1, k2⟩ := f3_cells (I1.at 0)
  refine ⟨_, k0, _, k1, _, k2, region_New_ok (wf_u64 ha) (fun _ h2 u2 => ⟨_, _, rfl, iT rfl (hfin _ (I1.u.nx u2 fun _ e _ => e))⟩) fun g h2 Q N2 => ⟨_, _, rfl, iF rfl ⟨_, rfl, ?_⟩⟩⟩
  have I2 := I1.new N2
  have W0 := wi0 g
  have mo : (BU0 ⟨a, b, d⟩).m.o = d.toNat := bu0_o g
  have mn : (BU0 ⟨a, b, d⟩).m.n = 0 := rfl
  have sn : (BU0 ⟨a, b, d⟩).st.n = 0 := rfl
  generalize BU0 ⟨a, b, d⟩ = x0 at N2 I2 W0 mo mn sn
  have P2 := N2.p
  have g0 := g.o0
  have g8 := g.o8
  have l1 := g.l1
  simp only [] at g0 g8 l1
  obtain ⟨on, hon⟩ : ∃ on : Nat, d = on := ⟨d.toNat, by omega⟩
  have hmo : x0.m.o = on := by rw [mo, hon]; simp
  have hon8 : on ≤ 8 := by omega
  have h8 := pow8 hon8
  refine ground_Space_ok P2 ⟨_, rfl, _, rfl, ground_Map_ok P2 ⟨_, rfl, _, rfl, ground_Buddy_ok P2 ⟨_, rfl, fun J7 hJ7 => pF rfl (mem_Regions_ok (bu_sp (pl_bu P2)) ⟨_, rfl, hJ7 _ _ (iF (by rw [sn]; rfl) ?_)⟩)⟩⟩⟩
  refine needP (o := 0) W0 P2 (fun hb => absurd hb (by omega)) (fun on _ _ j p l _ _ hF => by cases hF) (fun on _ _ _ hor => ?_) fun o2 eo ho _ _ hl x1 h3 Q3 eq eB W3 o3 n3 s3 _ S3 => ⟨_, _, _, rfl, fun J9 hJ9 => pF rfl (hJ9 _ _ fun J10 hJ10 => pF rfl ⟨_, rfl, ?_⟩)⟩
  · rcases hor with e | e
    · cases e
    · rw [sn] at e
      have e : ((0 : Nat) : Int) = b := e
      omega
  have eo : o2 = 0 := by omega
  subst eo
  have I3 := I2.step 0 S3
  have P3 := S3.p
  obtain ⟨eB1, eB2, eB3⟩ := eB
  rw [← eq]
  refine ground_Space_ok P3 ⟨_, rfl, ptr_same eB1 (hJ10 _ _ fun J11 hJ11 => pF rfl ⟨_, rfl, ?_⟩)⟩
  rw [← eq]
  refine ground_Map_ok P3 ⟨_, rfl, ptr_same eB2 (hJ11 _ _ fun J12 hJ12 => pF rfl ⟨_, rfl, ?_⟩)⟩
  rw [← eq]
  refine ground_Buddy_ok P3 ⟨_, rfl, ptr_same eB3 (hJ12 _ _ fun J13 hJ13 => pF rfl ?_)⟩
  rw [← eB1]
  refine mem_Regions_ok (bu_sp (pl_bu P3)) ⟨_, rfl, hJ13 _ _ fun J14 hJ14 => pF (by rw [s3, sn]; rfl) ?_⟩
  obtain ⟨k0, k1, k2⟩ := f3_cells (I3.at 1)
  refine ⟨_, k2, by omega, ?_⟩
  rw [← eB2]
  refine pm_Pages_ok (bu_map (pl_bu P3)) ⟨_, rfl, k2, hJ14 _ _ (iF ?_ ?_)⟩
  · rw [n3, mn, hmo, hon, shl1 hon8, Nat.zero_add]
    exact eq_b rfl
  rw [← eB3]
  refine headsB W3 (pl_bu P3) fun h4 p4 c4 N4 => ⟨_, _, _, rfl, ?_⟩
  have I4 := I3.new N4
  obtain ⟨k0, k1, k2⟩ := f3_cells (I4.at 2)
  have o3' : x1.m.o = on := by rw [o3, hmo]
  have e1 : IntKind.wrap .i64 (d + 1) = ((on + 1 : Nat) : Int) := by rw [hon, IntKind.wrap_i64]; omega
  refine ⟨_, k2, fun J16 hJ16 => ?_⟩
  rw [hdL_len, o3', e1]
  refine qT (beq_self_eq_true _) ⟨_, k2, ?_⟩
  have hL := hdL_len ⟨a, b, d⟩ (aCut x0.m.n 0 (fset (fun _ => []) x0.m.o []) (x0.m.o - 0)) x1.m.o
  obtain ⟨b4, e4, v4⟩ := sl_cell (N4.p) (i := 0) (by rw [hL]; omega)
  refine ⟨_, e4, Int.le_refl _, by omega, _, v4, hJ16 _ _ ?_⟩
  have hh : (hdL ⟨a, b, d⟩ (aCut x0.m.n 0 (fset (fun _ => []) x0.m.o []) (x0.m.o - 0)) x1.m.o).getD 0 0 = if on = 0 then 0 else adr ⟨a, b, d⟩ 1 := by
    unfold hdL
    rw [List.getD_eq_getElem?_getD, List.getElem?_map, List.getElem?_range (by omega)]
    simp only [Option.map_some, Option.getD_some]
    rw [aCut_at, hmo, mn]
    have ef : fset (fun _ => []) on ([] : List Nat) 0 = [] := by unfold fset; split <;> rfl
    by_cases h0 : on = 0
    · rw [if_neg (by omega), if_pos h0, ef]; rfl
    · rw [if_pos (by omega), if_neg h0]; rfl
  rw [hh, hon]
  have eT : (((on : Int) == 0) == ((if on = 0 then (0 : Int) else adr ⟨a, b, d⟩ 1) == 0)) = true := by
    by_cases h0 : on = 0
    · subst h0; rfl
    · rw [if_neg h0]
      have hp := g.b0
      simp only [] at hp
      have e2 : ((on : Int) == 0) = false := beq_false_of_ne (by omega)
      have e3 : (adr ⟨a, b, d⟩ 1 == 0) = false := beq_false_of_ne (by unfold adr; simp only []; omega)
      rw [e2, e3]; rfl
  rw [← hon] at eT
  rw [← hon, eT]
  exact hfin _ I4.u
end Go.Proofs.Ytippbfnhgooepaa
