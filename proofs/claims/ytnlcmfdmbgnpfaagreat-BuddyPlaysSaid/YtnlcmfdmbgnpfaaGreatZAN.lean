/- croftlaw5: looks, opened over a world with the document's buddy. No condition. -/
import Derived.Test.YtnlcmfdmbgnpfaaGreatZAM
set_option linter.unusedSimpArgs false
set_option linter.unusedVariables false
namespace Go.Proofs.YtnlcmfdmbgnpfaaGreat
open Go.V Classical

section
variable {h0 h : Heap} {E A B C D : Res} {rs : List Res}
theorem ow_swap (H : Go.V.Own h0 h E (A :: B :: rs)) : Go.V.Own h0 h E (B :: A :: rs) := H.perm (.swap _ _ _)
theorem ow_swap2 (H : Go.V.Own h0 h E (A :: B :: C :: rs)) : Go.V.Own h0 h E (A :: C :: B :: rs) := H.perm (.cons _ (.swap _ _ _))
theorem ow_front3 (H : Go.V.Own h0 h E (A :: B :: C :: rs)) : Go.V.Own h0 h E (C :: A :: B :: rs) := ow_swap (ow_swap2 H)
theorem ow_front4 (H : Go.V.Own h0 h E (A :: B :: C :: D :: rs)) : Go.V.Own h0 h E (D :: A :: B :: C :: rs) := ow_front3 (H.perm (.cons _ (.cons _ (.swap _ _ _))))
end

section
variable {w₀ : World} {h h' : Heap} {c : Cfg} {Q : WZ} {x : BU} {fl : Nat → List Nat} {V : List PBk} {K : Value → Heap → Prop} {h0 : Heap} {E : Res} {rs : List Res}

theorem bu_of_bop {s mb b : Nat} {Z : Nat → Prop} {w : MW} {lp : Option Addr} {lc : Nat} {lb : Nat → Nat} (I : Go.V.Own h0 h E (bopR c s mb b lp (x.m.o + 1) lc lb x.hd :: mapR mb x.m w :: spR s c Z x.st :: rs)) :
    Go.V.Own h0 h E (buR c ⟨s, Z, mb, w, b, lp, lc, lb⟩ x :: rs) := by
  have J1 := I.split
  have J2 := (ow_swap J1).split
  have J3 := (ow_front3 J2).join
  have J4 := (ow_swap (ow_front4 (ow_swap J3))).join
  have J5 := (ow_swap2 J4).join
  exact (ow_swap J5).join

theorem wz_heads (W : WI c x fl V) (I : Go.V.Own h0 h E (wzR c Q x fl V :: rs)) (hK : ∀ h' p cap, Go.V.Own h0 h' E (slR p (hdL c fl x.m.o).length cap 1 (uL (hdL c fl x.m.o)) :: wzR c Q x fl V :: rs) → K (.slice p (hdL c fl x.m.o).length (hdL c fl x.m.o).length) h') :
    CallV Tryz.prog w₀ F.buddy_Buddy_Heads [.pointer (some ⟨Q.W.b, 0, none⟩)] h K :=
  headsB W (wz_bu (I.at 0)) fun h' p cap N => hK h' p cap (I.new N)

theorem wz_free {o : Int} (W : WI c x fl V) (I : Go.V.Own h0 h E (wzR c Q x fl V :: rs))
    (hK : ∀ h' p cap l, l = (if 0 ≤ o ∧ o ≤ x.m.o then (fl o.toNat).map (adr c) else []) → Go.V.Own h0 h' E (slR p l.length cap 1 (uL l) :: wzR c Q x fl V :: rs) → K (.slice p l.length cap) h') :
    CallV Tryz.prog w₀ F.buddy_Buddy_Free [.pointer (some ⟨Q.W.b, 0, none⟩), .int .i64 o] h K := by
  by_cases ho : 0 ≤ o ∧ o ≤ x.m.o
  · obtain ⟨k, rfl⟩ : ∃ k : Nat, o = k := ⟨o.toNat, by omega⟩
    refine freeB W (wz_bu (I.at 0)) (by omega) fun h' p cap S => hK h' p cap _ (by rw [if_pos ho, Int.toNat_natCast]) ?_
    have I1 := ow_front3 (wz_split I)
    have I2 : Go.V.Own h0 h' E (andR (buR c Q.W x) (slR p ((fl k).map (adr c)).length cap 1 (uL ((fl k).map (adr c)))) :: blkR Q.wb 10 (wzF c Q x.m.o x.m.n V.length) :: rfR Q.Y x.m.o fl V :: rs) := I1.step 0 S
    have I3 := I2.split
    exact ow_swap (wz_join (ow_front4 (ow_front4 I3)))
  · refine freeBN W (wz_bu (I.at 0)) (by omega) ?_
    have := hK h none 0 [] (by rw [if_neg ho]) (I.new ⟨Upd.refl _ _, sl_nil _ _ _, fun b e => absurd e (sl_nil_fp b)⟩)
    exact this

theorem wz_want {o : Int} (W : WI c x fl V) {i : Nat} (I : Go.V.Own h0 h E rs) (hi : rs[i]? = some (wzR c Q x fl V))
    (hK : ∀ h' p cap l, l = (if 0 ≤ o ∧ o ≤ x.m.o then (fl o.toNat).map (adr c) else []) → Go.V.Own h0 h' E (slR p l.length cap 1 (uL l) :: rs) → K (.slice p l.length cap) h') :
    CallV Tryz.prog w₀ F.croftlaw5_world_free [.pointer (some ⟨Q.wb, 0, none⟩), .int .i64 o] h K := by
  refine freeZ_ok W (I.at i hi) (fun ho => ?_) fun k ek hk h' p cap N => ?_
  · have := hK h none 0 [] (by rw [if_neg (by omega)]) (I.new ⟨Upd.refl _ _, sl_nil _ _ _, fun b e => absurd e (sl_nil_fp b)⟩)
    exact this
  · subst ek
    exact hK h' p cap _ (by rw [if_pos (by omega), Int.toNat_natCast]) (I.new N)

theorem fl_len (W : WI c x fl V) (o : Int) : (if 0 ≤ o ∧ o ≤ x.m.o then (fl o.toNat).map (adr c) else []).length ≤ 2000 := by
  split
  · rw [List.length_map]; exact W.flOk.len _ (by omega)
  · simp

theorem looksZ_ok (W : WI c x fl V) (H : (wzR c Q x fl V).P h) (hK : ∀ h', Stp h h' (wzR c Q x fl V) (wzR c Q x fl V) → K (.bool true) h') :
    CallV Tryz.prog w₀ F.croftlaw5_world_looks [.pointer (some ⟨Q.wb, 0, none⟩)] h K := by
  refine croftlaw5_world_looks.call ?_
  unfold croftlaw5_world_looks.vc
  have o8 := W.ok.m.o8
  have eo := W.ok.o
  have hl := hdL_len c fl x.m.o
  have I0 := Go.V.Own.of H
  refine ⟨_, rfl, _, wz_cell H (i := 5) (by omega), wz_heads W I0 fun h1 p1 c1 I1 => ⟨_, _, _, rfl, ?_⟩⟩
  refine headsZ_ok W (I1.at 1) fun h2 p2 c2 N2 => ⟨_, _, _, rfl, ?_⟩
  have I2 := I1.new N2
  refine ints_ok (by omega) (sl_uL (I2.at 1)) (sl_uL (I2.at 0)) ⟨_, rfl, fun J4 hJ4 => pF (by simp) ?_⟩
  refine mappedZ_ok W (I2.at 2) fun h3 u3 => ⟨_, rfl, hJ4 _ _ (iF (by simp) fun J5 hJ5 L6 hL6 => ?_)⟩
  have I3 := (I2.quiet u3).drop.drop
  have loop : ∀ (d i : Nat) (hx : Heap), i + d = x.m.o + 1 → Go.V.Own h hx (wzR c Q x fl V) [wzR c Q x fl V] → L6 [.pointer (some ⟨Q.wb, 0, none⟩), .int .i64 (i : Int)] hx := by
    intro d
    induction d with
    | zero =>
      intro i hx hi I
      exact hL6 _ _ _ ⟨_, rfl, _, wz_cell (I.at 0) (i := 2) (by omega), iF (decide_eq_false (by omega)) (hJ5 _ (hK _ (I.one 0)))⟩
    | succ d ih =>
      intro i hx hi I
      refine hL6 _ _ _ ⟨_, rfl, _, wz_cell (I.at 0) (i := 2) (by omega), iT (decide_eq_true (by omega)) ⟨_, rfl, _, wz_cell (I.at 0) (i := 5) (by omega), ?_⟩⟩
      refine wz_free W I fun h4 p4 c4 l el I4 => ⟨_, _, _, rfl, ?_⟩
      refine wz_want (i := 1) W I4 rfl fun h5 p5 c5 l' el' I5 => ⟨_, _, _, rfl, ?_⟩
      have ll : l' = l := el'.trans el.symm
      subst ll
      have hlen := fl_len W (i : Int)
      rw [← el] at hlen
      refine ints_ok (by omega) (sl_uL (I5.at 1)) (sl_uL (I5.at 0)) ⟨_, rfl, fun J10 hJ10 => pF (by simp) ?_⟩
      refine linkedZ_ok W (I5.at 2) (by omega) fun h6 u6 => ⟨_, rfl, hJ10 _ _ (iF (by simp) ?_)⟩
      rw [show IntKind.wrap .i64 ((i : Int) + 1) = ((i + 1 : Nat) : Int) by rw [IntKind.wrap_i64]; omega]
      exact ih (i + 1) h6 (by omega) (I5.quiet u6).drop.drop
  exact loop (x.m.o + 1) 0 h3 (by omega) I3
end
end Go.Proofs.YtnlcmfdmbgnpfaaGreat
