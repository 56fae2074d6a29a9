/- croftlaw6: RegionNews. No condition. -/
import Derived.Test.YtippbfnhgooepaaC3
set_option linter.unusedSimpArgs false
set_option linter.unusedVariables false
namespace Go.Proofs.Ytippbfnhgooepaa
open Go.V Classical

theorem RegionNews_law {w : World} {a b d : Int} (ha : (Lit.int .u64 a).wf = true) (hb : (Lit.int .i64 b).wf = true) (hd : (Lit.int .i64 d).wf = true) :
    CallV Try.prog w F.croftlaw6_RegionNews [.agg #[.int .u64 a, .int .i64 b, .int .i64 d]] w.heap fun v h' => v = .bool true ∧ Upd NoB w.heap h' := by
  have hfin : ∀ h', Upd NoB w.heap h' → (fun (r : Value) (h' : Heap) => r = Value.bool true ∧ Upd NoB w.heap h') (.bool true) h' := fun h' u => ⟨rfl, u⟩
  generalize (fun (r : Value) (h' : Heap) => r = Value.bool true ∧ Upd NoB w.heap h') = K at hfin ⊢
  refine croftlaw6_RegionNews.call ?_
  unfold croftlaw6_RegionNews.vc
  have N0 := box3 w.heap (.int .u64 a) (.int .i64 b) (.int .i64 d) T.T_api_Config
  generalize Array.push w.heap (.cells #[.int .u64 a, .int .i64 b, .int .i64 d] T.T_api_Config) = h0 at N0 ⊢
  have I0 := (Hold.nil w.heap).new N0
  refine awake6_ok fun h1 u1 => ⟨_, rfl, iF rfl ?_⟩
  have I1 := I0.quiet u1
  obtain ⟨k0, k1, k2⟩ := f3_cells (I1.at 0)
  refine ⟨_, k0, _, k1, _, k2, region_New_ok (wf_u64 ha) (fun hbad h2 u2 => ⟨_, _, rfl, ?_⟩) fun g h2 Q N2 => ⟨_, _, rfl, ?_⟩⟩
  · have I2 := I1.quiet u2
    obtain ⟨k0, k1, k2⟩ := f3_cells (I2.at 0)
    refine ⟨_, k0, _, k1, _, k2, ref2_May_ok (wf_u64 ha) fun h3 u3 => ⟨_, rfl, ?_⟩⟩
    rw [decide_eq_false hbad]
    exact iT rfl (hfin _ (I2.quiet u3).u)
  have I2 := I1.new N2
  obtain ⟨k0, k1, k2⟩ := f3_cells (I2.at 1)
  refine ⟨_, k0, _, k1, _, k2, ref2_May_ok (wf_u64 ha) fun h3 u3 => ⟨_, rfl, ?_⟩⟩
  rw [decide_eq_true g]
  have I3 := I2.quiet u3
  have W0 := wi0 g
  have mo : (BU0 ⟨a, b, d⟩).m.o = d.toNat := bu0_o g
  have mn : (BU0 ⟨a, b, d⟩).m.n = 0 := rfl
  have sn : (BU0 ⟨a, b, d⟩).st.n = 0 := rfl
  generalize BU0 ⟨a, b, d⟩ = x0 at I3 W0 mo mn sn
  have P3 : (plR ⟨a, b, d⟩ Q x0).P h3 := I3.at 0
  have g0 := g.o0
  have g8 := g.o8
  simp only [] at g0 g8
  obtain ⟨on, hon⟩ : ∃ on : Nat, d = on := ⟨d.toNat, by omega⟩
  have hmo : x0.m.o = on := by rw [mo, hon]; simp
  obtain ⟨k0, k1, k2⟩ := f3_cells (I3.at 1)
  refine iF rfl fun J5 hJ5 => qT rfl ⟨_, rfl, ground_Space_ok P3 ⟨_, rfl, mem_Regions_ok (bu_sp (pl_bu P3)) ⟨_, rfl, hJ5 _ _ fun J6 hJ6 => qT (by rw [sn]; rfl) ⟨_, rfl, _, k0, ground_Space_ok P3 ⟨_, rfl, k0, ?_⟩⟩⟩⟩⟩
  refine mem_End_ok (bu_sp (pl_bu P3)) ⟨_, rfl, k0, hJ6 _ _ fun J7 hJ7 => qT (by rw [sn]; simp) ⟨_, rfl, ground_Map_ok P3 ⟨_, rfl, ?_⟩⟩⟩
  refine pm_Pages_ok (bu_map (pl_bu P3)) ⟨_, rfl, hJ7 _ _ fun J8 hJ8 => qT (by rw [mn]; rfl) ⟨_, rfl, _, k2, ground_Buddy_ok P3 ⟨_, rfl, k2, ?_⟩⟩⟩
  refine headsB W0 (pl_bu P3) fun h4 p4 c4 N4 => ⟨_, _, _, rfl, ?_⟩
  have I4 := I3.new N4
  have P4 : (plR ⟨a, b, d⟩ Q x0).P h4 := I4.at 1
  obtain ⟨k0, k1, k2⟩ := f3_cells (I4.at 2)
  refine ⟨k2, hJ8 _ _ fun J9 hJ9 => qT ?_ ?_⟩
  · rw [hdL_len, hmo, hon, show IntKind.wrap .i64 ((on : Int) + 1) = ((on + 1 : Nat) : Int) by rw [IntKind.wrap_i64]; omega]
    exact beq_self_eq_true _
  refine trimP W0 P4 fun x' fl' Q' h5 _ _ _ _ _ hle _ S5 => ⟨_, rfl, hJ9 _ _ ?_⟩
  rw [sn, Nat.zero_sub]
  exact hfin _ (I4.step 1 S5).u
end Go.Proofs.Ytippbfnhgooepaa
