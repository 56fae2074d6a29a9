/- croftlaw3: lives. No condition. -/
import Derived.Test.YtfijahblggnbbaaK5
set_option linter.unusedSimpArgs false
set_option linter.unusedVariables false
namespace Go.Proofs.Ytfijahblggnbbaa
open Go.V Classical

def v0 : LS := ⟨S1, 0⟩
def v1 : LS := (pushU C1 v0 4096).1
def v2 : LS := (pushU C1 v1 4160).1
def v3 : LS := (pushU C1 v2 4128).1
def v4 : LS := (removeU C1 v3 4160).1

theorem v_facts : (pushU C1 v0 4096).2 = 0 ∧ (pushU C1 v1 4160).2 = 0 ∧ (pushU C1 v2 4128).2 = 0 ∧ v3.hd = 4128 ∧ allL C1 v3 = [4128, 4160, 4096] ∧ (removeU C1 v3 4160).2 = 0 ∧
    v4.st.th C1 4128 8 = true ∧ v4.st.rd C1 4128 = 4096 ∧ v4.st.th C1 4104 8 = true ∧ v4.st.rd C1 4104 = 4128 ∧ (removeU C1 v4 4160).2 = 8 := by decide +kernel

attribute [local irreducible] v1 v2 v3 v4

section
variable {w₀ : World} {h : Heap} {K : Value → Heap → Prop}

theorem lit_row (h : Heap) (l : List Int) (arr : Array Value) (T : TypeId) (n : Nat) (hn : l.length = n) (ha : ∀ i, i < n → arr[i]? = some (uL l i)) : Row (h.push (.cells arr T)) (some ⟨h.size, 0, none⟩) l.length (uL l) :=
  .inr ⟨h.size, 0, rfl, fun i hi => by rw [cellAt_new, Nat.zero_add]; exact ha i (by omega)⟩

theorem lives_ok (hK : ∀ h', Upd NoB h h' → K (.bool true) h') : CallV Try.prog w₀ F.croftlaw3_lives [] h K := by
  obtain ⟨f1, f2, f3, f4, f5, f6, f7, f8, f9, f10, f11⟩ := v_facts
  refine croftlaw3_lives.call ?_
  unfold croftlaw3_lives.vc
  refine small_ok fun h1 s Z A1 => ⟨_, rfl, iF rfl ?_⟩
  refine links_New_ok (s := s) (by omega) fun h2 A2 => ⟨_, rfl, fun J3 hJ3 => pF rfl ?_⟩
  have B0 : New h h2 (lwR s h1.size C1 Z v0) := (A1.and A2).conv (fun P => ⟨P.2.1, P.1, fun b e e' => P.2.2 b e' e⟩) fun b e => e.symm
  refine links_Push_ok (x := v0) (by omega) B0.p fun h3 T3 => ⟨_, rfl, hJ3 _ _ fun J4 hJ4 => pF (eq_b f1) ?_⟩
  have B1 : New h h3 (lwR s h1.size C1 Z v1) := by unfold v1; exact B0.stp T3
  refine links_Push_ok (x := v1) (by omega) B1.p fun h4 T4 => ⟨_, rfl, hJ4 _ _ fun J5 hJ5 => pF (eq_b f2) ?_⟩
  have B2 : New h h4 (lwR s h1.size C1 Z v2) := by unfold v2; exact B1.stp T4
  refine links_Push_ok (x := v2) (by omega) B2.p fun h5 T5 => ⟨_, rfl, hJ5 _ _ fun J6 hJ6 => pF (eq_b f3) ?_⟩
  have B3 : New h h5 (lwR s h1.size C1 Z v3) := by unfold v3; exact B2.stp T5
  refine links_Head_ok B3.p.1 ⟨_, rfl, hJ6 _ _ (iF (eq_b f4) ?_)⟩
  refine all_ok B3.p fun h6 p cap T6 => ⟨_, _, _, rfl, ?_⟩
  have B6 := B3.stp T6
  rw [f5]
  rw [f5] at B6
  have u7 : Upd NoB h6 (h6.push (.cells #[(.int .u64 (4128 : Int)), (.int .u64 (4160 : Int)), (.int .u64 (4096 : Int))] T.T_uint64)) := push_upd _ _ _
  have R7 := lit_row h6 [4128, 4160, 4096] #[(.int .u64 (4128 : Int)), (.int .u64 (4160 : Int)), (.int .u64 (4096 : Int))] T.T_uint64 3 rfl fun i hi => by
    rcases i with _ | _ | _ | i
    · rfl
    · rfl
    · rfl
    · omega
  generalize h6.push (.cells #[(.int .u64 (4128 : Int)), (.int .u64 (4160 : Int)), (.int .u64 (4096 : Int))] T.T_uint64) = h7 at u7 R7 ⊢
  have B7 := B6.quiet u7
  have P7 : Row h7 p ([4128, 4160, 4096] : List Int).length (uL [4128, 4160, 4096]) := by have := sl_row B7.p.2.1; simpa using this
  refine same_ok (xs := [4128, 4160, 4096]) (ys := [4128, 4160, 4096]) (by decide) P7 R7 ⟨_, rfl, fun J10 hJ10 => qT (by decide) ?_⟩
  have B8 : New h h7 (lwR s h1.size C1 Z v3) := B7.conv (fun P => P.1) fun b e => .inl e
  refine links_Remove_ok (x := v3) (by omega) B8.p fun h8 T8 => ⟨_, rfl, hJ10 _ _ fun J11 hJ11 => qT (by rw [f6]; rfl) ?_⟩
  have B9 : New h h8 (lwR s h1.size C1 Z v4) := by unfold v4; exact B8.stp T8
  refine word_ok (by omega) B9.p.2.1 fun h9 u9 => ⟨_, rfl, hJ11 _ _ fun J12 hJ12 => qT (by rw [if_pos f7, f8]; rfl) ?_⟩
  have B10 := B9.quiet u9
  refine word_ok (by omega) B10.p.2.1 fun h10 u10 => ⟨_, rfl, hJ12 _ _ fun J13 hJ13 => qT (by rw [if_pos f9, f10]; rfl) ?_⟩
  have B11 := B10.quiet u10
  refine links_Remove_ok (x := v4) (by omega) B11.p fun h11 T11 => ⟨_, rfl, hJ13 _ _ ?_⟩
  rw [f11]
  exact hK h11 (B11.stp T11).u
end

end Go.Proofs.Ytfijahblggnbbaa
