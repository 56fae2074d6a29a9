/- croftlaw5: a world begins. No condition. -/
import Derived.Test.YtnlcmfdmbgnpfaaGreatZAF
set_option linter.unusedSimpArgs false
set_option linter.unusedVariables false
namespace Go.Proofs.YtnlcmfdmbgnpfaaGreat
open Go.V Classical

section
variable {w₀ : World} {h : Heap} {K : Value → Heap → Prop}

theorem beginZ_ok {a b d : Int} (ha : U64 a)
    (hK : ∀ (h' : Heap) (Q : WZ), New h h' (wzR (usualC a b d) Q (BU0 (usualC a b d)) (fun _ => []) []) → K (.pointer (some ⟨Q.wb, 0, none⟩)) h') :
    CallV Tryz.prog w₀ F.croftlaw5_begin [.agg #[.int .u64 a, .int .i64 b, .int .i64 d]] h K := by
  refine croftlaw5_begin.call ?_
  unfold croftlaw5_begin.vc
  have N1 := box3 h (.int .u64 a) (.int .i64 b) (.int .i64 d) T.T_api_Config
  generalize Array.push h (.cells #[.int .u64 a, .int .i64 b, .int .i64 d] T.T_api_Config) = h1 at N1 ⊢
  have I1 := (Hold.nil h).new N1
  obtain ⟨k0, k1, k2⟩ := f3_cells (I1.at 0)
  refine ⟨_, k0, _, k1, _, k2, usual_ok ha fun h2 u2 => ⟨_, _, _, rfl, ?_⟩⟩
  have g := usual_good a b d
  have hu := usual_u64 (b := b) (d := d) ha
  generalize usualC a b d = c at hK g hu ⊢
  have I2 := I1.quiet u2
  obtain ⟨w3, S3⟩ := assign3 (I2.at 0) (.int .u64 c.base) (.int .i64 c.limit) (.int .i64 c.order)
  have I3 := I2.step 0 S3
  have I3 : Hold h (setCs h2 ⟨h.size, 0, none⟩ 0 [.int .u64 c.base, .int .i64 c.limit, .int .i64 c.order]) [blkR h.size 3 (f3 (.int .u64 c.base) (.int .i64 c.limit) (.int .i64 c.order))] := I3
  refine ⟨w3, ?_⟩
  generalize setCs h2 ⟨h.size, 0, none⟩ 0 [.int .u64 c.base, .int .i64 c.limit, .int .i64 c.order] = h3 at I3 ⊢
  obtain ⟨k0, k1, k2⟩ := f3_cells (I3.at 0)
  refine ⟨_, k0, _, k1, _, k2, ?_⟩
  refine mem_New_ok hu (fun hn => absurd g hn) fun _ h4 s u4 hs4 H4 => ⟨_, _, rfl, ?_⟩
  have N4 : New h3 h4 (spR s c (fun x => x = s) ⟨0, fun _ => 0⟩) := ⟨u4, H4, fun b e => by have e : b = s := e; omega⟩
  have I4 := I3.new N4
  obtain ⟨k0, k1, k2⟩ := f3_cells (I4.at 1)
  refine ⟨_, k2, pm_New_ok fun h5 mb w N5 => ⟨_, rfl, fun J6 hJ6 => pF rfl (hJ6 _ _ fun J7 hJ7 => pF rfl (hJ7 _ _ (iF rfl ?_)))⟩⟩
  have I5 := I4.new N5
  obtain ⟨k0, k1, k2⟩ := f3_cells (I5.at 2)
  refine ⟨_, k0, _, k1, _, k2, bu_New_ok ⟨g.o0, g.o8⟩ fun h6 b lp lc lb N6 => ⟨_, rfl, iF rfl ?_⟩⟩
  have I6 := I5.new N6
  obtain ⟨k0, k1, k2⟩ := f3_cells (I6.at 3)
  obtain ⟨on, hon⟩ : ∃ on : Nat, c.order = on := ⟨c.order.toNat, by have := g.o0; omega⟩
  have ho8 : on ≤ 8 := by have := g.o8; omega
  have hcl : (mNew c.order).o = on := by show clampO c.order = on; rw [clamp_o g, hon]; simp
  have hK := hK
  refine ⟨_, k0, _, k1, _, k2, _, k2, ?_⟩
  rw [hon]
  refine new5_ok ho8 fun h7 Y N7 => ⟨_, _, _, _, _, _, _, _, rfl, ?_⟩
  have I7 := I6.new N7
  obtain ⟨k0, k1, k2⟩ := f3_cells (I7.at 4)
  refine ⟨k0, k1, by rw [k2, hon], ?_⟩
  have N8 := New.box h7 #[(.int .u64 c.base), (.int .i64 c.limit), (.int .i64 (on : Int)), (.pointer (some ⟨s, 0, none⟩)), (.pointer (some ⟨mb, 0, none⟩)), (.pointer (some ⟨b, 0, none⟩)), (.int .i64 (on : Int)), (.int .i64 0), (.slice Y.fp (on + 1) Y.fc), (.slice Y.vp 0 Y.vc)] T.T_croftlaw5_world
  let W : BW := ⟨s, fun x => x = s, mb, w, b, lp, lc, lb⟩
  let Q : WZ := ⟨h7.size, W, Y⟩
  have N9 : New h7 (h7.push (.cells #[(.int .u64 c.base), (.int .i64 c.limit), (.int .i64 (on : Int)), (.pointer (some ⟨s, 0, none⟩)), (.pointer (some ⟨mb, 0, none⟩)), (.pointer (some ⟨b, 0, none⟩)), (.int .i64 (on : Int)), (.int .i64 0), (.slice Y.fp (on + 1) Y.fc), (.slice Y.vp 0 Y.vc)] T.T_croftlaw5_world)) (blkR h7.size 10 (wzF c Q on 0 0)) :=
    N8.conv (fun A => Blk.congr A fun j hj => by
      have hj : j < 10 := hj
      have : j = 0 ∨ j = 1 ∨ j = 2 ∨ j = 3 ∨ j = 4 ∨ j = 5 ∨ j = 6 ∨ j = 7 ∨ j = 8 ∨ j = 9 := by omega
      rcases this with rfl | rfl | rfl | rfl | rfl | rfl | rfl | rfl | rfl | rfl <;> first | rfl | (show _ = Value.int .i64 c.order; rw [hon]; rfl)) fun _ e => e
  refine hK _ Q ?_
  -- put together
  have J0 := I7.sub (rs' := [rfR Y on (fun _ => []) [], bopR c s mb b lp (c.order.toNat + 1) lc lb (fun _ => 0), mapR mb (mNew c.order) w, spR s c (fun x => x = s) ⟨0, fun _ => 0⟩]) (.cons_cons _ (.cons_cons _ (.cons_cons _ (.cons_cons _ (.cons _ .slnil)))))
  have J1 := J0.perm (rs' := [bopR c s mb b lp (c.order.toNat + 1) lc lb (fun _ => 0), mapR mb (mNew c.order) w, spR s c (fun x => x = s) ⟨0, fun _ => 0⟩, rfR Y on (fun _ => []) []]) (List.perm_append_comm (l₁ := [_, _, _]) (l₂ := [_]))
  have J2 := J1.split.swap.split
  have J3 := (J2.front3.join.front4.front3.join).front3.swap.join.swap.join
  have J4 := J3.swap
  have J5 := (J4.new N9).join.join.toNew
  refine J5.conv (fun A => ?_) fun b e => ?_
  · refine ⟨⟨?_, ?_, ?_⟩, ?_, ?_⟩
    · show Blk _ _ _ (wzF c Q (mNew c.order).o 0 0)
      rw [hcl]; exact A.1.1
    · show (rfR Y (mNew c.order).o (fun _ => []) []).P _
      rw [hcl]; exact A.1.2.1
    · intro z e e'
      have e' : (rfR Y (mNew c.order).o (fun _ => []) []).fp z := e'
      rw [hcl] at e'
      exact A.1.2.2 z e e'
    · have := A.2.1
      show (buR c W (BU0 c)).P _
      unfold buR
      rw [show (BU0 c).m.o = c.order.toNat by show (mNew c.order).o = _; rw [hcl, hon]; simp]
      exact this
    · intro z e e'
      have e' : (buR c W (BU0 c)).fp z := e'
      have e0 : (andR (blkR h7.size 10 (wzF c Q on 0 0)) (rfR Y on (fun _ => []) [])).fp z := by
        rcases e with e | e
        · exact .inl e
        · have e : (rfR Y (mNew c.order).o (fun _ => []) []).fp z := e
          rw [hcl] at e
          exact .inr e
      refine A.2.2 z e0 ?_
      unfold buR at e'
      rw [show (BU0 c).m.o = c.order.toNat by show (mNew c.order).o = _; rw [hcl, hon]; simp] at e'
      exact e'
  · rcases e with e | e
    · have e0 : (andR (blkR h7.size 10 (wzF c Q on 0 0)) (rfR Y on (fun _ => []) [])).fp b := by
        rcases e with e | e
        · exact .inl e
        · have e : (rfR Y (mNew c.order).o (fun _ => []) []).fp b := e
          rw [hcl] at e
          exact .inr e
      exact .inl e0
    · refine .inr ?_
      have e' : (buR c W (BU0 c)).fp b := e
      unfold buR at e'
      rw [show (BU0 c).m.o = c.order.toNat by show (mNew c.order).o = _; rw [hcl, hon]; simp] at e'
      exact e'

end
end Go.Proofs.YtnlcmfdmbgnpfaaGreat
