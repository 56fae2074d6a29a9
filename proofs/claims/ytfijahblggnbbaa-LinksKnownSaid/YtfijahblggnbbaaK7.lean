/- LinksKnown. No condition. -/
import Derived.Test.YtfijahblggnbbaaK6
set_option linter.unusedSimpArgs false
set_option linter.unusedVariables false
namespace Go.Proofs.Ytfijahblggnbbaa
open Go.V Classical

def w0 : LS := (popU C1 v0).1
def w1 : LS := (pushU C1 w0 8180).1
def w2 : LS := (pushU C1 w1 0).1
def w3 : LS := (removeU C1 w2 100).1
def w4 : LS := (pushU C1 w3 4096).1
def w5 : LS := (pushU C1 w4 4112).1
def w6 : LS := ⟨w5.st.wr C1 4104 5, w5.hd⟩
def w7 : LS := (popU C1 w6).1
def w8 : LS := (removeU C1 w7 4096).1
def w9 : LS := ⟨w8.st.wr C1 4096 4096, w8.hd⟩
def w10 : LS := ⟨w9.st.wr C1 4104 0, w9.hd⟩
def m0 : LS := ⟨w10.st, 4096⟩
def m1 : LS := (popU C1 m0).1

theorem w_facts : (popU C1 v0).2 = (0, 9) ∧ allL C1 w0 = [] ∧ (pushU C1 w0 8180).2 = 4 ∧ (pushU C1 w1 0).2 = 4 ∧ (removeU C1 w2 100).2 = 4 ∧ w3.hd = 0 ∧ (pushU C1 w3 4096).2 = 0 ∧ (pushU C1 w4 4112).2 = 0 ∧
    w5.st.th C1 4104 8 = true ∧ (popU C1 w6).2 = (0, 8) ∧ allL C1 w7 = [4112] ∧ (removeU C1 w7 4096).2 = 8 ∧ w8.hd = 4112 ∧ w8.st.th C1 4096 8 = true ∧ w9.st.th C1 4104 8 = true ∧ (popU C1 m0).2 = (0, 8) ∧ allL C1 m1 = [4096] := by decide +kernel

attribute [local irreducible] w0 w1 w2 w3 w4 w5 w6 w7 w8 w9 w10 m0 m1

section
variable {w₀ : World} {h : Heap} {K : Value → Heap → Prop}

theorem row1L (h : Heap) (a : Int) (T : TypeId) : Row (h.push (.cells #[.int .u64 a] T)) (some ⟨h.size, 0, none⟩) ([a] : List Int).length (uL [a]) :=
  lit_row h [a] #[.int .u64 a] T 1 rfl fun i hi => by
    have : i = 0 := by omega
    subst this; rfl

theorem LinksKnown_ok (hK : ∀ h', Upd NoB h h' → K (.bool true) h') : CallV Try.prog w₀ F.croftlaw3_LinksKnown [] h K := by
  obtain ⟨f1, f2, f3, f4, f5, f6, f7, f8, f9, f10, f11, f12, f13, f14, f15, f16, f17⟩ := w_facts
  refine croftlaw3_LinksKnown.call ?_
  unfold croftlaw3_LinksKnown.vc
  refine small_ok fun h1 s Z A1 => ⟨_, rfl, fun J2 hJ2 => pF rfl (lives_ok fun h2 u2 => ⟨_, rfl, hJ2 _ _ (iF rfl ?_)⟩)⟩
  have A2 := A1.quiet u2
  refine links_New_ok (s := s) (by omega) fun h3 A3 => ⟨_, rfl, ?_⟩
  have B0 : New h h3 (lwR s h2.size C1 Z v0) := (A2.and A3).conv (fun P => ⟨P.2.1, P.1, fun b e e' => P.2.2 b e' e⟩) fun b e => e.symm
  refine links_Pop_ok (x := v0) B0.p fun h4 T4 => ⟨_, _, rfl, fun J5 hJ5 => pF (by rw [f1]; rfl) (hJ5 _ _ fun J6 hJ6 => pF (by rw [f1]; rfl) ?_)⟩
  have B1 : New h h4 (lwR s h2.size C1 Z w0) := by unfold w0; exact B0.stp T4
  refine all_ok B1.p fun h5 p cap T5 => ⟨_, _, _, rfl, hJ6 _ _ fun J7 hJ7 => pF (by rw [f2]; rfl) ?_⟩
  have B2 : New h h5 (lwR s h2.size C1 Z w0) := (B1.stp T5).conv (fun P => P.1) fun b e => .inl e
  refine links_Push_ok (by omega) B2.p fun h6 T6 => ⟨_, rfl, hJ7 _ _ fun J8 hJ8 => pF (by rw [f3]; rfl) ?_⟩
  have B3 : New h h6 (lwR s h2.size C1 Z w1) := by unfold w1; exact B2.stp T6
  refine links_Push_ok (by omega) B3.p fun h7 T7 => ⟨_, rfl, hJ8 _ _ fun J9 hJ9 => pF (by rw [f4]; rfl) ?_⟩
  have B4 : New h h7 (lwR s h2.size C1 Z w2) := by unfold w2; exact B3.stp T7
  refine links_Remove_ok (by omega) B4.p fun h8 T8 => ⟨_, rfl, hJ9 _ _ fun J10 hJ10 => pF (by rw [f5]; rfl) ?_⟩
  have B5 : New h h8 (lwR s h2.size C1 Z w3) := by unfold w3; exact B4.stp T8
  refine links_Head_ok B5.p.1 ⟨_, rfl, hJ10 _ _ (iF (by rw [f6]; rfl) ?_)⟩
  refine links_Push_ok (by omega) B5.p fun h9 T9 => ⟨_, rfl, fun J12 hJ12 => pF (by rw [f7]; rfl) ?_⟩
  have B6 : New h h9 (lwR s h2.size C1 Z w4) := by unfold w4; exact B5.stp T9
  refine links_Push_ok (by omega) B6.p fun h10 T10 => ⟨_, rfl, hJ12 _ _ fun J13 hJ13 => pF (by rw [f8]; rfl) ?_⟩
  have B7 : New h h10 (lwR s h2.size C1 Z w5) := by unfold w5; exact B6.stp T10
  refine setw_ok (by omega) (by omega) f9 B7.p.2.1 fun h11 T11 => ⟨_, rfl, hJ13 _ _ (iF rfl ?_)⟩
  have B8 : New h h11 (lwR s h2.size C1 Z w6) := by unfold w6; exact B7.stp (T11.right B7.p)
  refine links_Pop_ok B8.p fun h12 T12 => ⟨_, _, rfl, ?_⟩
  have B9 : New h h12 (lwR s h2.size C1 Z w7) := by unfold w7; exact B8.stp T12
  refine all_ok B9.p fun h13 p2 cap2 T13 => ⟨_, _, _, rfl, ?_⟩
  have B10 := B9.stp T13
  rw [f11]
  rw [f11] at B10
  have u14 : Upd NoB h13 (h13.push (.cells #[.int .u64 4112] T.T_uint64)) := push_upd _ _ _
  have R14 := row1L h13 4112 T.T_uint64
  generalize h13.push (.cells #[.int .u64 4112] T.T_uint64) = h14 at u14 R14 ⊢
  have B11 := B10.quiet u14
  have P14 : Row h14 p2 ([4112] : List Int).length (uL [4112]) := by have := sl_row B11.p.2.1; simpa using this
  refine same_ok (xs := [4112]) (ys := [4112]) (by decide) P14 R14 ⟨_, rfl, fun J18 hJ18 => pF (by decide) ?_⟩
  have B12 : New h h14 (lwR s h2.size C1 Z w7) := B11.conv (fun P => P.1) fun b e => .inl e
  refine links_Remove_ok (by omega) B12.p fun h15 T15 => ⟨_, rfl, hJ18 _ _ fun J19 hJ19 => pF (by rw [f12]; rfl) (hJ19 _ _ fun J20 hJ20 => pF (by rw [f10]; rfl) (hJ20 _ _ fun J21 hJ21 => pF (by rw [f10]; rfl) ?_))⟩
  have B13 : New h h15 (lwR s h2.size C1 Z w8) := by unfold w8; exact B12.stp T15
  refine links_Head_ok B13.p.1 ⟨_, rfl, hJ21 _ _ (iF (by rw [f13]; rfl) ?_)⟩
  refine setw_ok (by omega) (by omega) f14 B13.p.2.1 fun h16 T16 => ⟨_, rfl, fun J23 hJ23 => pF rfl ?_⟩
  have B14 : New h h16 (lwR s h2.size C1 Z w9) := by unfold w9; exact B13.stp (T16.right B13.p)
  refine setw_ok (by omega) (by omega) f15 B14.p.2.1 fun h17 T17 => ⟨_, rfl, hJ23 _ _ (iF rfl ?_)⟩
  have B15 : New h h17 (lwR s h2.size C1 Z w10) := by unfold w10; exact B14.stp (T17.right B14.p)
  refine links_New_ok (s := s) (by omega) fun h18 A18 => ⟨_, rfl, ?_⟩
  have B16 : New h h18 (lwR s h17.size C1 Z m0) := by
    unfold m0
    exact (B15.and A18).conv (fun P => ⟨P.2.1, P.1.2.1, fun b e e' => P.2.2 b (.inr e') e⟩) fun b e => e.elim .inr fun e => .inl (.inr e)
  refine links_Pop_ok B16.p fun h19 T19 => ⟨_, _, rfl, ?_⟩
  have B17 : New h h19 (lwR s h17.size C1 Z m1) := by unfold m1; exact B16.stp T19
  refine all_ok B17.p fun h20 p3 cap3 T20 => ⟨_, _, _, rfl, ?_⟩
  have B18 := B17.stp T20
  rw [f17]
  rw [f17] at B18
  have u21 : Upd NoB h20 (h20.push (.cells #[.int .u64 4096] T.T_uint64)) := push_upd _ _ _
  have R21 := row1L h20 4096 T.T_uint64
  generalize h20.push (.cells #[.int .u64 4096] T.T_uint64) = h21 at u21 R21 ⊢
  have B19 := B18.quiet u21
  have P21 : Row h21 p3 ([4096] : List Int).length (uL [4096]) := by have := sl_row B19.p.2.1; simpa using this
  refine same_ok (xs := [4096]) (ys := [4096]) (by decide) P21 R21 ⟨_, rfl, ?_⟩
  rw [f16]
  refine jand.2 (jand.2 ?_)
  have := hK h21 B19.u
  simpa using this
end

theorem LinksKnown_law {w : World} : CallV Try.prog w F.croftlaw3_LinksKnown [] w.heap fun v h' => v = .bool true ∧ Upd NoB w.heap h' :=
  LinksKnown_ok fun h' u => ⟨rfl, u⟩
end Go.Proofs.Ytfijahblggnbbaa
