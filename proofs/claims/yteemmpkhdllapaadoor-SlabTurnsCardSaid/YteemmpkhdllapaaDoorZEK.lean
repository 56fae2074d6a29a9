/- croftlaw7: SlabTurns. No condition. -/
import Derived.Test.YteemmpkhdllapaaDoorZEJ
import Derived.Test.YteemmpkhdllapaaDoorZBW
import Derived.Test.YteemmpkhdllapaaDoorZGcroftlaw7SlabTurns
set_option linter.unusedSimpArgs false
set_option linter.unusedVariables false
namespace Go.Proofs.YteemmpkhdllapaaDoor
open Go.V Classical

theorem SlabTurns_law {w : World} {a b d a' b' d' : Int} {p q : Option Addr} {n cp m cq : Nat} (T0 : Tab w.heap) (ha : (Lit.int .u64 a).wf = true) (hb : (Lit.int .i64 b).wf = true) (hd : (Lit.int .i64 d).wf = true) (ha' : (Lit.int .u64 a').wf = true) (hb' : (Lit.int .i64 b').wf = true) (hd' : (Lit.int .i64 d').wf = true) (hs : HRow w.heap dd7Ty 4 p n cp) (hs' : Bls w.heap q m cq) :
    CallV Tryd.prog w F.croftlaw7_SlabTurns [.agg #[.int .u64 a, .int .i64 b, .int .i64 d], .agg #[.int .u64 a', .int .i64 b', .int .i64 d'], .slice p n cp, .slice q m cq] w.heap fun v h' => v = .bool true ∧ Upd NoB w.heap h' := by
  have hn := hs.1
  have hc := hs.2.1
  obtain ⟨f', hn', hc', hr'⟩ := hs'
  have hfin : ∀ h', Upd NoB w.heap h' → (fun (r : Value) (h' : Heap) => r = Value.bool true ∧ Upd NoB w.heap h') (.bool true) h' := fun h' u => ⟨rfl, u⟩
  generalize (fun (r : Value) (h' : Heap) => r = Value.bool true ∧ Upd NoB w.heap h') = K at hfin ⊢
  refine croftlaw7_SlabTurns.call ?_
  unfold croftlaw7_SlabTurns.vc
  have N0 := box_l w.heap [.int .u64 a, .int .i64 b, .int .i64 d] T.T_api_Config
  generalize Array.push w.heap (.cells #[.int .u64 a, .int .i64 b, .int .i64 d] T.T_api_Config) = h0 at N0 ⊢
  have N0' := box_l h0 [.int .u64 a', .int .i64 b', .int .i64 d'] T.T_api_Config
  generalize Array.push h0 (.cells #[.int .u64 a', .int .i64 b', .int .i64 d'] T.T_api_Config) = h0' at N0' ⊢
  have I0 := ((Hold.nil w.heap).new N0).new N0'
  have B0 := I0.at 1
  refine ⟨_, cell_l0 B0, _, cell_l B0 1, _, cell_l B0 2, beginX (wf_u64 ha) fun h1 wa Qa da hla Na => ⟨_, rfl, ?_⟩⟩
  have Ia := I0.new Na
  have B1 := Ia.at 1
  refine ⟨_, cell_l0 B1, _, cell_l B1 1, _, cell_l B1 2, beginX (wf_u64 ha') fun h1' wb Qb db hlb Nb => ⟨_, rfl, fun J5 hJ5 => pF rfl (hJ5 _ _ fun J6 hJ6 => pF rfl ?_)⟩⟩
  have Ib := Ia.new Nb
  have Wa0 : SI (usual7 a b d) (BU0 (usual7 a b d)) (fun _ => -1) noS (fun _ => []) [] (fun _ => 0) (fun _ => []) (fun _ => []) := si0 (usual7_good a b d) (fun _ => 0) (fun _ => [])
  have Wb0 : SI (usual7 a' b' d') (BU0 (usual7 a' b' d')) (fun _ => -1) noS (fun _ => []) [] (fun _ => 0) (fun _ => []) (fun _ => []) := si0 (usual7_good a' b' d') (fun _ => 0) (fun _ => [])
  generalize usual7 a b d = ca at Na Ia Ib Wa0
  generalize usual7 a' b' d' = cb at Nb Ib Wb0
  generalize BU0 ca = xa0 at Na Ia Ib Wa0
  generalize BU0 cb = xb0 at Nb Ib Wb0
  refine lives7_ok (T0.upd Ib.u id) fun h2 u2 => ⟨_, rfl, hJ6 _ _ (iF rfl fun J7 hJ7 L8 hL8 => ?_)⟩
  have I2 := Ib.quiet u2
  have I2 : Hold w.heap h2 [w7R cb wb db Qb xb0 fun _ => -1, w7R ca wa da Qa xa0 fun _ => -1] := I2.sub (.cons_cons _ (.cons_cons _ (.cons _ (.cons _ .slnil))))
  have I3 : Hold w.heap h2 [wkR ca wa da Qa xa0 (fun _ => -1) none 0 [], wkR cb wb db Qb xb0 (fun _ => -1) none 0 []] := bk_nil (b0 := ca.base) (bk_nil (b0 := cb.base) I2).swap
  have loop : ∀ (k i : Nat) (hx : Heap) (Qa : SL) (xa : BU) (hpa : Nat → Int) (Sa : Nat → Prop) (fla : Nat → List Nat) (La : List PBk) (cla : Nat → Nat) (fra pla : Nat → List Nat) (la : List CE) (bpa : Option Addr) (bca : Nat)
      (Qb : SL) (xb : BU) (hpb : Nat → Int) (Sb : Nat → Prop) (flb : Nat → List Nat) (Lb : List PBk) (clb : Nat → Nat) (frb plb : Nat → List Nat) (lb : List CE) (bpb : Option Addr) (bcb : Nat), i + k = n → la.length ≤ i → lb.length ≤ i → i ≤ 200 → SI ca xa hpa Sa fla La cla fra pla → Book la Sa La cla fra → SI cb xb hpb Sb flb Lb clb frb plb → Book lb Sb Lb clb frb →
      Hold w.heap hx [wkR ca wa da Qa xa hpa bpa bca la, wkR cb wb db Qb xb hpb bpb bcb lb] → L8 [.slice p n cp, .slice q m cq, gptr wa, gptr wb, .slice bpa la.length bca, .slice bpb lb.length bcb, .int .i64 (i : Int)] hx := by
    intro k
    induction k with
    | zero =>
      intro i hx Qa xa hpa Sa fla La cla fra pla la bpa bca Qb xb hpb Sb flb Lb clb frb plb lb bpb bcb hi hl hl' h200 Wa Ba Wb Bb I
      exact hL8 _ _ _ _ _ _ _ _ _ _ _ _ _ _ _ _ fun J9 hJ9 => qF' (decide_eq_false (by omega)) (hJ9 _ _ (iF rfl (hJ7 _ (hfin _ I.u))))
    | succ k ih =>
      intro i hx Qa xa hpa Sa fla La cla fra pla la bpa bca Qb xb hpb Sb flb Lb clb frb plb lb bpb bcb hi hl hl' h200 Wa Ba Wb Bb I
      refine hL8 _ _ _ _ _ _ _ _ _ _ _ _ _ _ _ _ fun J9 hJ9 => qT (decide_eq_true (by omega)) (hJ9 _ _ ?_)
      by_cases h3 : (i : Int) < 200
      case neg => exact iF (decide_eq_false h3) (hJ7 _ (hfin _ I.u))
      obtain ⟨ad, z0, z1, z2, z3, ead, b1, b2, hcell⟩ := dd7_at hs (i := i) (by omega)
      obtain ⟨c0, c1, c2, c3⟩ := hcell hx I.u
      have hwr : IntKind.wrap .i64 ((i : Int) + 1) = ((i + 1 : Nat) : Int) := by rw [IntKind.wrap_i64]; omega
      refine iT (decide_eq_true h3) fun J10 hJ10 J11 hJ11 => ?_
      have main : ∀ bb : Bool, J11 bb hx := by
        intro bb
        refine hJ11 _ _ ⟨fun _ => ⟨ad, ead, by omega, by omega, _, c0, _, c1, _, c2, _, c3, ?_⟩, fun _ => ⟨ad, ead, by omega, by omega, _, c0, _, c1, _, c2, _, c3, ?_⟩⟩
        · refine do7_ok Wb Bb (TabH.of T0 I 1) (I.at 1) (by omega) b1 b2 fun x' hp' S' fl' L' cl' fr' pl' Q' l' bp' bc' h' hQ' W' B' O S' => ⟨_, _, _, _, rfl, hJ10 _ _ _ _ _ _ _ _ _ _ _ _ _ _ _ _ _ (iF rfl ?_)⟩
          rw [hwr]
          exact ih (i + 1) h' Qa xa hpa _ fla La cla fra pla la bpa bca Q' x' hp' _ fl' L' cl' fr' pl' l' bp' bc' (by omega) (by omega) (by have := O.len; omega) (by omega) Wa Ba W' B' (I.step 1 S')
        · refine do7_ok Wa Ba (TabH.of T0 I 0) (I.at 0) (by omega) b1 b2 fun x' hp' S' fl' L' cl' fr' pl' Q' l' bp' bc' h' hQ' W' B' O S' => ⟨_, _, _, _, rfl, hJ10 _ _ _ _ _ _ _ _ _ _ _ _ _ _ _ _ _ (iF rfl ?_)⟩
          rw [hwr]
          exact ih (i + 1) h' Q' x' hp' _ fl' L' cl' fr' pl' l' bp' bc' Qb xb hpb _ flb Lb clb frb plb lb bpb bcb (by omega) (by have := O.len; omega) (by omega) (by omega) W' B' Wb Bb (I.step 0 S')
      by_cases hm : (i : Int) < (m : Int)
      · rcases hr' with hr' | ⟨bq, oq, rfl, hr'⟩
        · omega
        refine qT (decide_eq_true hm) ⟨_, rfl, by omega, by omega, f' i, ?_, main _⟩
        rw [add_mk, Int.toNat_natCast, Nat.mul_one]
        exact cellAt_upd (hr' i (by omega)) I.u id
      · exact qF' (decide_eq_false hm) (main false)
  exact loop n 0 h2 Qa xa0 _ _ _ _ _ _ _ [] none 0 Qb xb0 _ _ _ _ _ _ _ [] none 0 (by omega) (Nat.le_refl _) (Nat.le_refl _) (by omega) Wa0 book0 Wb0 book0 I3
end Go.Proofs.YteemmpkhdllapaaDoor
