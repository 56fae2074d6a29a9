/- croftlaw5: a world: goes, at, page, ints; what a call does to what a world stands for. No condition. -/
import Derived.Test.YtippbfnhgooepaaZBI
set_option linter.unusedSimpArgs false
set_option linter.unusedVariables false
namespace Go.Proofs.Ytippbfnhgooepaa
open Go.V Classical

structure WI (c : Cfg) (x : BU) (F : Nat → List Nat) (L : List PBk) : Prop where
  rep : Rep c x F L []
  e : x.m.n = x.st.n * 2 ^ x.m.o
  g : c.Good

structure Mv (x x' : BU) (L : List PBk) : Prop where
  k : Kept L x.st x'.st
  o : x'.m.o = x.m.o
  n : x'.m.n = x.m.n

section
variable {w₀ : World} {h h' : Heap} {c : Cfg} {Q : WW} {x : BU} {K : Value → Heap → Prop} {fl : Nat → List Nat} {L L' : List PBk} {p k : Nat}

theorem WI.ok (W : WI c x fl L) : BU.Ok c x := W.rep.ok
theorem WI.perm (W : WI c x fl L) (h : L.Perm L') : WI c x fl L' := ⟨W.rep.permL h, W.e, W.g⟩

theorem WI.mv {x' : BU} {F' : Nat → List Nat} {L0 : List PBk} (W : WI c x fl L) (G : Go' c x x' F' L0 L') : WI c x' F' L' ∧ Mv x x' L0 :=
  ⟨⟨G.r, by rw [G.n, G.k.1, G.o]; exact W.e, W.g⟩, ⟨G.k, G.o, G.n⟩⟩

theorem WI.nr (W : WI c x fl L) : x.st.n ≤ 1024 := by
  have h1 := W.e
  have h2 := W.ok.m.n1
  have h5 : x.st.n * 1 ≤ x.st.n * 2 ^ x.m.o := Nat.mul_le_mul_left _ (Nat.one_le_two_pow)
  omega

theorem bu_bop {W : BW} (H : (buR c W x).P h) : (bopR c W.s W.mb W.b W.lp (x.m.o + 1) W.lc W.lb x.hd).P h :=
  ⟨H.1.1, ⟨H.1.2.1, H.2.1.1.1, fun b e e' => H.2.2 b (.inr e) (.inl (.inl e'))⟩, fun b e e' => by
    rcases e' with e' | e'
    · exact H.1.2.2 b e e'
    · exact H.2.2 b (.inl e) (.inl (.inl e'))⟩

def hdL (c : Cfg) (fl : Nat → List Nat) (o : Nat) : List Int := (List.range (o + 1)).map fun k => ((fl k).map (adr c)).headD 0

theorem hdL_len (c : Cfg) (fl : Nat → List Nat) (o : Nat) : (hdL c fl o).length = o + 1 := by simp [hdL]

end
end Go.Proofs.Ytippbfnhgooepaa
