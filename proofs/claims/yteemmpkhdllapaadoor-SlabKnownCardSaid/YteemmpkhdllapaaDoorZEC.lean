/- croftlaw7: lives. No condition. -/
import Derived.Test.YteemmpkhdllapaaDoorZEB
set_option linter.unusedSimpArgs false
set_option linter.unusedVariables false
namespace Go.Proofs.YteemmpkhdllapaaDoor
open Go.V Classical

def C7 : Cfg := ⟨65536, 1, 1⟩
theorem usual7_C7 : usual7 65536 1 1 = C7 := by unfold usual7; split <;> rfl
theorem bu7_o : (BU0 C7).m.o = 1 := clamp_o good1

section
variable {w₀ : World} {h : Heap} {K : Value → Heap → Prop}

theorem beginX {a b d : Int} (ha : U64 a)
    (hK : ∀ (h' : Heap) (wb : Nat) (Q : SL) (l : List Value), l.length = 9 → New h h' (w7R (usual7 a b d) wb l Q (BU0 (usual7 a b d)) fun _ => -1) → K (gptr wb) h') :
    CallV Tryd.prog w₀ F.croftlaw7_begin [.agg #[.int .u64 a, .int .i64 b, .int .i64 d]] h K :=
  begin7_ok ha fun h' wb Q on fp qp fc qc _ N => hK h' wb Q _ rfl (N.conv (fun P => P.1) fun _ e => .inl e)

theorem lives7_ok (T : Tab h) (hK : ∀ h', Upd NoB h h' → K (.bool true) h') : CallV Tryd.prog w₀ F.croftlaw7_lives [] h K := by
  refine croftlaw7_lives.call ?_
  unfold croftlaw7_lives.vc
  refine beginX (by unfold U64; omega) fun h1 wb Q1 l hl N1 => ⟨_, rfl, iF rfl ?_⟩
  rw [usual7_C7] at N1
  have I0 := si0 good1 (fun _ => 0) (fun _ => [])
  have bo : (BU0 C7).m.o = 1 := bu7_o
  have bn : (BU0 C7).m.n = 0 := rfl
  have bs : (BU0 C7).st.n = 0 := rfl
  have I0 : SI C7 (BU0 C7) (fun _ => -1) noS (fun _ => []) [] (fun _ => 0) (fun _ => []) (fun _ => []) := I0
  generalize BU0 C7 = x0 at N1 I0 bo bn bs
  have J1 := (Hold.nil h).new N1
  refine ⟨_, rfl, _, w_c4 (J1.at 0), ?_⟩
  refine takeX (k := 0) (deny := true) I0 (TabH.of T J1 0) (J1.at 0) (by omega) (fun q l' j f e => (by cases e)) (fun _ _ _ h2 Q2 q2 S2 => ⟨_, _, _, rfl, ?_⟩) (fun _ q b fl' x' hp' h' Q' _ hcase => ?_)
  case refine_2 =>
    rcases hcase with ⟨_, j, l, _, hF, _⟩ | ⟨_, _, hd, _⟩
    · cases hF
    · cases hd
  have J2 := J1.step 0 S2
  refine ⟨_, rfl, _, by have := w_c4 (J2.at 0); exact this, ?_⟩
  refine takeX (k := 7) (deny := false) I0 (TabH.of T J2 0) (J2.at 0) (by omega) (fun q l' j f e => (by cases e)) (fun _ _ hd _ _ _ _ => absurd hd (by rw [bs]; decide)) (fun _ q b fl' x3 hp3 h3 Q3 q3 hcase I3 o3 _ S3 => ?_)
  rcases hcase with ⟨_, j, l, _, hF, _⟩ | ⟨rfl, _, _, _, rfl, efl, n3, s3⟩
  · cases hF
  rw [bn] at I3 n3
  have eadr : adr C7 x0.m.n = 65536 := by rw [bn]; decide
  rw [eadr]
  refine ⟨_, _, _, rfl, ?_⟩
  have J3 := J2.step 0 S3
  have e7 : List.range' 1 (cnt 7 - 1) = [1] := by decide
  rw [e7] at I3
  refine ⟨_, rfl, _, by have := w_c4 (J3.at 0); exact this, ?_⟩
  refine takeX (k := 7) (deny := false) I3 (TabH.of T J3 0) (J3.at 0) (by omega) (fun q l' j f e ef x4 hp4 h4 Q4 q4 I4 st4 n4 o4 S4 => ?_) (fun e => by rw [fset_same] at e; cases e) (fun e => by rw [fset_same] at e; cases e)
  rw [fset_same] at e
  cases e
  rw [fset_same] at ef
  cases ef
  refine ⟨_, _, _, rfl, ?_⟩
  have J4 := J3.step 0 S4
  have H4 := J4.at 0
  have c3 := w_c3 H4
  have c4 := w_c4 H4
  refine ⟨_, rfl, _, c3, _, rfl, _, c4, Partial_ok (w_s H4).1 fun h5 q5 N5 => ⟨_, _, _, rfl, ?_⟩⟩
  have J5 := J4.new N5
  have H5 := J5.at 1
  refine ⟨w_c3 H5, ?_⟩
  have R5 : Row h5 q5 8 (iL (ptL hp4)) := by have := sl_row (J5.at 0); rwa [Nat.mul_one] at this
  refine Open_ok R5 fun h6 sb6 N6 => ⟨_, _, rfl, fun J7 hJ7 => pF rfl (hJ7 _ _ fun J8 hJ8 => pF rfl ⟨_, rfl, _, w_c4 ((J5.new N6).at 2), ?_⟩)⟩
  have J6 := J5.new N6
  refine Partial_ok (J6.at 0) fun h7 q7 N7 => ⟨_, _, _, rfl, ?_⟩
  have J7' := J6.new N7
  refine ⟨w_c4 (J7'.at 3), Partial_ok (w_s (J7'.at 3)).1 fun h8 q8 N8 => ⟨_, _, _, rfl, ?_⟩⟩
  have J8' := J7'.new N8
  have R7 : Row h8 q7 (ptL hp4).length (iL (ptL hp4)) := by have := sl_row (J8'.at 1); rw [ptL_len]; rwa [Nat.mul_one] at this
  have R8 : Row h8 q8 (ptL hp4).length (iL (ptL hp4)) := by have := sl_row (J8'.at 0); rw [ptL_len]; rwa [Nat.mul_one] at this
  have key := ints7_ok (w₀ := w₀) (cp := 8) (cq := 8) (K := fun v71 h71 => ∃ r71 : Bool, v71 = .bool r71 ∧ J8 (!r71) h71) (by rw [ptL_len]; omega) R7 R8 ⟨_, rfl, ?_⟩
  · rw [ptL_len] at key; exact key
  have H8 := J8'.at 4
  have T8 := TabH.of T J8' 4
  have hS : ∀ p, (noS p ∨ p = 0) ↔ p = 0 := fun p => ⟨fun h => h.elim False.elim id, .inr⟩
  refine hJ8 _ _ (iF (by simp) fun J9 hJ9 => qT rfl (hJ9 _ _ fun J10 hJ10 => qT rfl (hJ10 _ _ fun J11 hJ11 => qT rfl (hJ11 _ _ fun J12 hJ12 => qT rfl (hJ12 _ _ fun J13 hJ13 => qT rfl (hJ13 _ _ fun J14 hJ14 => qT rfl (hJ14 _ _ fun J15 hJ15 =>
    qT (by decide) (hJ15 _ _ fun J16 hJ16 => qT rfl (hJ16 _ _ fun J17 hJ17 => qT rfl ⟨_, rfl, _, w_c4 H8, ?_⟩)))))))))
  have cl0 : fset (fun _ : Nat => 0) 0 7 0 = 7 := fset_same _ _ _
  have w7 : wdt 7 = 2048 := by decide
  refine sizeX (by unfold U64; omega) I4 T8 H8 (fun hn => ?_) fun q j hq hj hnj ea h9 u9 => ⟨_, rfl, hJ17 _ _ fun J18 hJ18 => ?_⟩
  · exact absurd rfl (hn 0 1 (.inr rfl) (by rw [cl0]; decide) (by rw [fset_same]; simp))
  have hq : q = 0 := (hS q).1 hq
  subst hq
  rw [cl0, w7]
  have J9' := J8'.quiet u9
  have H9 := J9'.at 4
  refine qT rfl ⟨_, rfl, _, w_c4 H9, ?_⟩
  refine sizeX (by unfold U64; omega) I4 (TabH.of T J9' 4) H9 (fun _ h10 u10 => ⟨_, rfl, hJ18 _ _ (hK h10 (J9'.quiet u10).u)⟩) fun q j hq hj hnj ea => ?_
  have hq : q = 0 := (hS q).1 hq
  subst hq
  rw [cl0, w7] at ea
  exact absurd ea (by unfold adr C7; simp only []; omega)
end
end Go.Proofs.YteemmpkhdllapaaDoor
