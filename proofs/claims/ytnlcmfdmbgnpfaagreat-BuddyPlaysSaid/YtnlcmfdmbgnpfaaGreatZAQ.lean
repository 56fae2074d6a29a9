/- croftlaw5: one step that is no Take. No condition. -/
import Derived.Test.YtnlcmfdmbgnpfaaGreatZAP
set_option linter.unusedSimpArgs false
set_option linter.unusedVariables false
namespace Go.Proofs.YtnlcmfdmbgnpfaaGreat
open Go.V Classical

def st5 (o0 o1 o2 o3 a4 : Int) : Nat → Value
  | 0 => .int .i64 o0
  | 1 => .int .i64 o1
  | 2 => .int .i64 o2
  | 3 => .int .i64 o3
  | _ => .int .u64 a4

section
variable {w₀ : World} {h h' : Heap} {c : Cfg} {Q : WZ} {x : BU} {fl : Nat → List Nat} {V : List PBk} {K : Value → Heap → Prop} {o0 o1 o2 o3 a4 p : Int}

theorem st5_new (h : Heap) (o0 o1 o2 o3 a4 : Int) : New h (h.push (.cells #[.int .i64 o0, .int .i64 o1, .int .i64 o2, .int .i64 o3, .int .u64 a4] T.T_croftlaw5_Step)) (blkR h.size 5 (st5 o0 o1 o2 o3 a4)) :=
  (New.box h #[.int .i64 o0, .int .i64 o1, .int .i64 o2, .int .i64 o3, .int .u64 a4] T.T_croftlaw5_Step).conv (fun P => Blk.congr P fun i hi => by
    have hi : i < 5 := hi
    have : i = 0 ∨ i = 1 ∨ i = 2 ∨ i = 3 ∨ i = 4 := by omega
    rcases this with rfl | rfl | rfl | rfl | rfl <;> rfl) fun _ e => e

theorem st5_cell {b i : Nat} (B : (blkR b 5 (st5 o0 o1 o2 o3 a4)).P h) (hi : i < 5) : cellAt h ((⟨b, 0, none⟩ : Addr).add i) = some (st5 o0 o1 o2 o3 a4 i) := by rw [add_mk, Nat.zero_add]; exact B.cell hi
theorem st5_c0 {b : Nat} (B : (blkR b 5 (st5 o0 o1 o2 o3 a4)).P h) : cellAt h (⟨b, 0, none⟩ : Addr) = some (.int .i64 o0) := B.cell (i := 0) (by omega)

set_option maxHeartbeats 1600000 in
theorem stepZ_ok (hp : U64 p) (W : WI c x fl V) (H : (wzR c Q x fl V).P h)
    (hK : ∀ (h' : Heap) (Q' : WZ) (x' : BU) (fl' : Nat → List Nat) (V' : List PBk), Q'.wb = Q.wb → WI c x' fl' V' → Stp h h' (wzR c Q x fl V) (wzR c Q' x' fl' V') → K (.bool true) h') :
    CallV Tryz.prog w₀ F.croftlaw5_world_step [.pointer (some ⟨Q.wb, 0, none⟩), .agg #[.int .i64 o0, .int .i64 o1, .int .i64 o2, .int .i64 o3, .int .u64 a4], .int .u64 p] h K := by
  refine croftlaw5_world_step.call ?_
  unfold croftlaw5_world_step.vc
  have N1 := st5_new h o0 o1 o2 o3 a4
  generalize Array.push h (.cells #[.int .i64 o0, .int .i64 o1, .int .i64 o2, .int .i64 o3, .int .u64 a4] T.T_croftlaw5_Step) = h1 at N1 ⊢
  obtain ⟨b0, eb0⟩ : ∃ b0, b0 = h.size := ⟨_, rfl⟩
  rw [← eb0] at N1 ⊢
  intro J2 hJ2
  have o8 := W.ok.m.o8
  have n1 := W.ok.m.n1
  have eo := W.ok.o
  have lV := W.lenV
  have I1 := ow_swap ((Go.V.Own.of H).new N1)
  have S1 := wz_split I1
  have hl := hdL_len c fl x.m.o
  have fin0 : ∀ (hx : Heap) (rs : List Res), Go.V.Own h hx (wzR c Q x fl V) (wzR c Q x fl V :: rs) → K (.bool true) hx := fun hx rs I => hK hx Q x fl V rfl W I.stp
  refine ⟨_, st5_c0 (I1.at 1), ?_⟩
  -- come
  by_cases e0 : o0 = 0
  · refine iT (by simp [e0]) ⟨_, rfl, _, wz_cell (I1.at 0) (i := 3) (by omega), _, rfl, _, wz_cell (I1.at 0) (i := 1) (by omega), mem_Regions_ok (bu_sp (wz_bu (I1.at 0))) ⟨_, rfl, wz_cell (I1.at 0) (i := 1) (by omega), fun J4 hJ4 => ?_⟩⟩
    by_cases el : (x.st.n : Int) = c.limit
    · exact pT (by simpa using el) (hJ4 _ _ (fin0 h1 _ I1))
    · have nl := (bu_sp (wz_bu H)).nl
      refine pF (by simpa using el) (comeZ_ok W (by omega) (I1.at 0) fun h2 Q' x' eq W' eo' S => ⟨_, rfl, hJ4 _ _ (hK h2 Q' x' _ _ eq W' (I1.step 0 S).stp)⟩)
  refine iF (by simpa using e0) ?_
  -- feed
  by_cases e1 : o0 = 1
  · refine iT (by simp [e1]) ⟨_, rfl, _, wzb_cell (S1.at 0) (i := 6) (by omega), _, wzb_cell (S1.at 0) (i := 7) (by omega), _, _, _, wzb_cell (S1.at 0) (i := 8) (by omega), _, _, _, wzb_cell (S1.at 0) (i := 9) (by omega), ?_⟩
    refine refFeed W (S1.at 1) fun h2 Y' fl' V' e G S => ⟨_, _, _, _, _, _, _, _, _, rfl, ?_⟩
    obtain ⟨w4, A⟩ := wz_answer (Y' := Y') (P' := x.m.n) (n' := V'.length) (S1.step 1 S)
    obtain ⟨k0, k1, k2, k3, w5, J3⟩ := A _ rfl
    exact ⟨w4, _, k0, _, k1, _, _, _, k2, _, _, _, k3, _, rfl, w5, _, rfl, _, wzb_cell (Q := { Q with Y := Y' }) (J3.at 0) (i := 5) (by omega), realFeed W (J3.at 2) G fun x' h' W' eo' en' S' => ⟨_, rfl, by rw [beq_self_eq_true]; exact hK h' { Q with Y := Y' } x' fl' V' rfl W' (wz_join' (Q := { Q with Y := Y' }) (J3.step 2 S') eo' en' rfl).stp⟩⟩
  refine iF (by simpa using e1) ?_
  -- pull
  by_cases e2 : o0 = 2
  · refine iT (by simp [e2]) ⟨_, rfl, _, wzb_cell (S1.at 0) (i := 6) (by omega), _, wzb_cell (S1.at 0) (i := 7) (by omega), _, _, _, wzb_cell (S1.at 0) (i := 8) (by omega), _, _, _, wzb_cell (S1.at 0) (i := 9) (by omega), ?_⟩
    refine refPull W (S1.at 1) fun h2 Y' fl' V' e G S => ⟨_, _, _, _, _, _, _, _, _, rfl, ?_⟩
    obtain ⟨w4, A⟩ := wz_answer (Y' := Y') (P' := x.m.n) (n' := V'.length) (S1.step 1 S)
    obtain ⟨k0, k1, k2, k3, w5, J3⟩ := A _ rfl
    exact ⟨w4, _, k0, _, k1, _, _, _, k2, _, _, _, k3, _, rfl, w5, _, rfl, _, wzb_cell (Q := { Q with Y := Y' }) (J3.at 0) (i := 5) (by omega), realPull W (J3.at 2) G fun x' h' W' eo' en' S' => ⟨_, rfl, by rw [beq_self_eq_true]; exact hK h' { Q with Y := Y' } x' fl' V' rfl W' (wz_join' (Q := { Q with Y := Y' }) (J3.step 2 S') eo' en' rfl).stp⟩⟩
  refine iF (by simpa using e2) ?_
  -- go
  by_cases e3 : o0 = 3
  · refine iT (by simp [e3]) ⟨_, rfl, _, wz_cell (I1.at 0) (i := 6) (by omega), _, wz_cell (I1.at 0) (i := 7) (by omega), _, _, _, wz_cell (I1.at 0) (i := 8) (by omega), _, _, _, wz_cell (I1.at 0) (i := 9) (by omega), ?_⟩
    refine ref5_Top_ok o8 n1 fun h2 u2 => ⟨_, rfl, fun J17 hJ17 => ?_⟩
    have I2 := I1.quiet u2
    by_cases hn : x.m.n = 0
    · rw [if_pos hn]
      exact pT rfl (hJ17 _ _ fun J18 hJ18 => pT rfl (hJ18 _ _ (fin0 h2 _ I2)))
    rw [if_neg hn]
    have hle := W.le5 hn
    have et : (x.m.n : Int) - ((2 ^ x.m.o : Nat) : Int) = ((x.m.n - 2 ^ x.m.o : Nat) : Int) := by omega
    rw [et]
    refine pF (decide_eq_false (by omega)) ⟨_, rfl, _, wz_cell (I2.at 0) (i := 6) (by omega), _, wz_cell (I2.at 0) (i := 7) (by omega), _, _, _, wz_cell (I2.at 0) (i := 8) (by omega), _, _, _, wz_cell (I2.at 0) (i := 9) (by omega), _, rfl, _, wz_cell (I2.at 0) (i := 2) (by omega), ?_⟩
    refine isLive5_ok (by omega) (wz_rf (I2.at 0)).2.1 fun h3 u3 => ⟨_, rfl, hJ17 _ _ fun J18 hJ18 => ?_⟩
    have I3 := I2.quiet u3
    by_cases hin : (x.m.n - 2 ^ x.m.o, x.m.o) ∈ V
    · refine pF (by rw [← eo, decide_eq_true (mem_prL.2 hin)]; rfl) (goesZ_ok W hn hin (I3.at 0) fun h4 Q' x' eq W' eo' S => ⟨_, rfl, hJ18 _ _ (hK h4 Q' x' _ _ eq W' (I3.step 0 S).stp)⟩)
    · exact pT (by rw [← eo, decide_eq_false fun hm => hin (mem_prL.1 hm)]; rfl) (hJ18 _ _ (fin0 h3 _ I3))
  refine iF (by simpa using e3) ?_
  -- give
  by_cases e5 : o0 = 5
  · refine iT (by simp [e5]) fun J21 hJ21 => ?_
    have after : ∀ (bx : Nat) (hx : Heap) (Y' : RW5) (fl' : Nat → List Nat) (V' : List PBk) (e : Int), GiveD c x.m.o fl V p o1 fl' V' e →
        Go.V.Own h hx (wzR c Q x fl V) (blkR bx 4 (f4 (.int .i64 (x.m.o : Int)) (.int .i64 (x.m.n : Int)) (.slice Y'.fp (x.m.o + 1) Y'.fc) (.slice Y'.vp V'.length Y'.vc)) :: blkR Q.wb 10 (wzF c Q x.m.o x.m.n V.length) :: rfR Y' x.m.o fl' V' :: buR c Q.W x :: blkR b0 5 (st5 o0 o1 o2 o3 a4) :: []) →
        J21 [.pointer (some ⟨Q.wb, 0, none⟩), .int .u64 p, .pointer (some ⟨b0, 0, none⟩), .pointer (some ⟨bx, 0, none⟩), .int .i64 e] hx := by
      intro bx hx Y' fl' V' e G I
      obtain ⟨k0, k1, k2, k3⟩ := f4_cells (I.at 0)
      obtain ⟨w5, S5⟩ := wz_put (I.at 1) Y' x.m.n V'.length
      have J := (I.step 1 S5).drop
      exact hJ21 _ _ _ _ _ _ ⟨_, k0, _, k1, _, _, _, k2, _, _, _, k3, _, rfl, w5, _, rfl, _, wzb_cell (Q := { Q with Y := Y' }) (J.at 0) (i := 5) (by omega), _, st5_cell (J.at 3) (i := 1) (by omega), realGive W (J.at 2) hp G fun x' h' W' eo' en' S' => ⟨_, rfl, by rw [beq_self_eq_true]; exact hK h' { Q with Y := Y' } x' fl' V' rfl W' (wz_join' (Q := { Q with Y := Y' }) (J.step 2 S') eo' en' rfl).stp⟩⟩
    refine ⟨_, rfl, _, wz_cell (I1.at 0) (i := 6) (by omega), _, wz_cell (I1.at 0) (i := 7) (by omega), _, _, _, wz_cell (I1.at 0) (i := 8) (by omega), _, _, _, wz_cell (I1.at 0) (i := 9) (by omega), _, st5_cell (I1.at 1) (i := 1) (by omega), ?_, ?_⟩
    · refine pageZ_ok hp W (I1.at 0) ⟨_, rfl, st5_cell (I1.at 1) (i := 1) (by omega), wz_cell (I1.at 0) (i := 6) (by omega), wz_cell (I1.at 0) (i := 7) (by omega), wz_cell (I1.at 0) (i := 8) (by omega), wz_cell (I1.at 0) (i := 9) (by omega), ?_, ?_⟩
      · refine refGive W (S1.at 1) fun h2 Y' fl' V' e G S => ⟨_, _, _, _, _, _, _, _, _, rfl, ?_⟩
        have I2 := S1.step 1 S
        have N3 := box4 h2 (.int .i64 0) (.int .i64 0) (.slice none 0 0) (.slice none 0 0) T.T_croftref5_Buddy
        generalize Array.push h2 (.cells #[.int .i64 0, .int .i64 0, .slice none 0 0, .slice none 0 0] T.T_croftref5_Buddy) = h3 at N3 ⊢
        have I3 := I2.new N3
        obtain ⟨w4, S4⟩ := assign4 (I3.at 0) (.int .i64 (x.m.o : Int)) (.int .i64 (x.m.n : Int)) (.slice Y'.fp (x.m.o + 1) Y'.fc) (.slice Y'.vp V'.length Y'.vc)
        have I4 := I3.step 0 S4
        exact ⟨st5_cell (I3.at 4) (i := 1) (by omega), wzb_cell (I3.at 1) (i := 6) (by omega), wzb_cell (I3.at 1) (i := 7) (by omega), wzb_cell (I3.at 1) (i := 8) (by omega), wzb_cell (I3.at 1) (i := 9) (by omega), w4, after _ _ Y' fl' V' e G I4⟩
      · have N3 := box4 h1 (.int .i64 0) (.int .i64 0) (.slice none 0 0) (.slice none 0 0) T.T_croftref5_Buddy
        generalize Array.push h1 (.cells #[.int .i64 0, .int .i64 0, .slice none 0 0, .slice none 0 0] T.T_croftref5_Buddy) = h3 at N3 ⊢
        have I3 := S1.new N3
        refine ⟨st5_cell (I3.at 4) (i := 1) (by omega), wzb_cell (I3.at 1) (i := 6) (by omega), wzb_cell (I3.at 1) (i := 7) (by omega), wzb_cell (I3.at 1) (i := 8) (by omega), wzb_cell (I3.at 1) (i := 9) (by omega), ?_⟩
        refine refGive W (I3.at 2) fun h2 Y' fl' V' e G S => ⟨_, _, _, _, _, _, _, _, _, rfl, ?_⟩
        have I2 := I3.step 2 S
        obtain ⟨w4, S4⟩ := assign4 (I2.at 0) (.int .i64 (x.m.o : Int)) (.int .i64 (x.m.n : Int)) (.slice Y'.fp (x.m.o + 1) Y'.fc) (.slice Y'.vp V'.length Y'.vc)
        exact ⟨w4, after _ _ Y' fl' V' e G (I2.step 0 S4)⟩
    · have N3 := box4 h1 (.int .i64 0) (.int .i64 0) (.slice none 0 0) (.slice none 0 0) T.T_croftref5_Buddy
      generalize Array.push h1 (.cells #[.int .i64 0, .int .i64 0, .slice none 0 0, .slice none 0 0] T.T_croftref5_Buddy) = h3 at N3 ⊢
      have I3 := S1.new N3
      have X3 := ow_swap (I1.new N3)
      refine ⟨st5_cell (I3.at 4) (i := 1) (by omega), wzb_cell (I3.at 1) (i := 6) (by omega), wzb_cell (I3.at 1) (i := 7) (by omega), wzb_cell (I3.at 1) (i := 8) (by omega), wzb_cell (I3.at 1) (i := 9) (by omega), ?_⟩
      refine pageZ_ok hp W (X3.at 0) ⟨_, rfl, st5_cell (I3.at 4) (i := 1) (by omega), wzb_cell (I3.at 1) (i := 6) (by omega), wzb_cell (I3.at 1) (i := 7) (by omega), wzb_cell (I3.at 1) (i := 8) (by omega), wzb_cell (I3.at 1) (i := 9) (by omega), ?_⟩
      refine refGive W (I3.at 2) fun h2 Y' fl' V' e G S => ⟨_, _, _, _, _, _, _, _, _, rfl, ?_⟩
      have I2 := I3.step 2 S
      obtain ⟨w4, S4⟩ := assign4 (I2.at 0) (.int .i64 (x.m.o : Int)) (.int .i64 (x.m.n : Int)) (.slice Y'.fp (x.m.o + 1) Y'.fc) (.slice Y'.vp V'.length Y'.vc)
      exact ⟨w4, after _ _ Y' fl' V' e G (I2.step 0 S4)⟩
  refine iF (by simpa using e5) ?_
  -- shrink
  by_cases e6 : o0 = 6
  · refine iT (by simp [e6]) fun J21 hJ21 => ?_
    have after : ∀ (bx : Nat) (hx : Heap) (Y' : RW5) (fl' : Nat → List Nat) (V' : List PBk) (e : Int), ShrinkD c fl V p o1 o2 fl' V' e →
        Go.V.Own h hx (wzR c Q x fl V) (blkR bx 4 (f4 (.int .i64 (x.m.o : Int)) (.int .i64 (x.m.n : Int)) (.slice Y'.fp (x.m.o + 1) Y'.fc) (.slice Y'.vp V'.length Y'.vc)) :: blkR Q.wb 10 (wzF c Q x.m.o x.m.n V.length) :: rfR Y' x.m.o fl' V' :: buR c Q.W x :: blkR b0 5 (st5 o0 o1 o2 o3 a4) :: []) →
        J21 [.pointer (some ⟨Q.wb, 0, none⟩), .int .u64 p, .pointer (some ⟨b0, 0, none⟩), .pointer (some ⟨bx, 0, none⟩), .int .i64 e] hx := by
      intro bx hx Y' fl' V' e G I
      obtain ⟨k0, k1, k2, k3⟩ := f4_cells (I.at 0)
      obtain ⟨w5, S5⟩ := wz_put (I.at 1) Y' x.m.n V'.length
      have J := (I.step 1 S5).drop
      exact hJ21 _ _ _ _ _ _ ⟨_, k0, _, k1, _, _, _, k2, _, _, _, k3, _, rfl, w5, _, rfl, _, wzb_cell (Q := { Q with Y := Y' }) (J.at 0) (i := 5) (by omega), _, st5_cell (J.at 3) (i := 1) (by omega), _, st5_cell (J.at 3) (i := 2) (by omega), realShrink W (J.at 2) hp G fun x' h' W' eo' en' S' => ⟨_, rfl, by rw [beq_self_eq_true]; exact hK h' { Q with Y := Y' } x' fl' V' rfl W' (wz_join' (Q := { Q with Y := Y' }) (J.step 2 S') eo' en' rfl).stp⟩⟩
    refine ⟨_, rfl, _, wz_cell (I1.at 0) (i := 6) (by omega), _, wz_cell (I1.at 0) (i := 7) (by omega), _, _, _, wz_cell (I1.at 0) (i := 8) (by omega), _, _, _, wz_cell (I1.at 0) (i := 9) (by omega), _, st5_cell (I1.at 1) (i := 1) (by omega), _, st5_cell (I1.at 1) (i := 2) (by omega), ?_, ?_⟩
    · refine pageZ_ok hp W (I1.at 0) ⟨_, rfl, st5_cell (I1.at 1) (i := 2) (by omega), st5_cell (I1.at 1) (i := 1) (by omega), wz_cell (I1.at 0) (i := 6) (by omega), wz_cell (I1.at 0) (i := 7) (by omega), wz_cell (I1.at 0) (i := 8) (by omega), wz_cell (I1.at 0) (i := 9) (by omega), ?_, ?_⟩
      · refine refShrink W (S1.at 1) fun h2 Y' fl' V' e G S => ⟨_, _, _, _, _, _, _, _, _, rfl, ?_⟩
        have I2 := S1.step 1 S
        have N3 := box4 h2 (.int .i64 0) (.int .i64 0) (.slice none 0 0) (.slice none 0 0) T.T_croftref5_Buddy
        generalize Array.push h2 (.cells #[.int .i64 0, .int .i64 0, .slice none 0 0, .slice none 0 0] T.T_croftref5_Buddy) = h3 at N3 ⊢
        have I3 := I2.new N3
        obtain ⟨w4, S4⟩ := assign4 (I3.at 0) (.int .i64 (x.m.o : Int)) (.int .i64 (x.m.n : Int)) (.slice Y'.fp (x.m.o + 1) Y'.fc) (.slice Y'.vp V'.length Y'.vc)
        have I4 := I3.step 0 S4
        exact ⟨st5_cell (I3.at 4) (i := 2) (by omega), st5_cell (I3.at 4) (i := 1) (by omega), wzb_cell (I3.at 1) (i := 6) (by omega), wzb_cell (I3.at 1) (i := 7) (by omega), wzb_cell (I3.at 1) (i := 8) (by omega), wzb_cell (I3.at 1) (i := 9) (by omega), w4, after _ _ Y' fl' V' e G I4⟩
      · have N3 := box4 h1 (.int .i64 0) (.int .i64 0) (.slice none 0 0) (.slice none 0 0) T.T_croftref5_Buddy
        generalize Array.push h1 (.cells #[.int .i64 0, .int .i64 0, .slice none 0 0, .slice none 0 0] T.T_croftref5_Buddy) = h3 at N3 ⊢
        have I3 := S1.new N3
        refine ⟨st5_cell (I3.at 4) (i := 2) (by omega), st5_cell (I3.at 4) (i := 1) (by omega), wzb_cell (I3.at 1) (i := 6) (by omega), wzb_cell (I3.at 1) (i := 7) (by omega), wzb_cell (I3.at 1) (i := 8) (by omega), wzb_cell (I3.at 1) (i := 9) (by omega), ?_⟩
        refine refShrink W (I3.at 2) fun h2 Y' fl' V' e G S => ⟨_, _, _, _, _, _, _, _, _, rfl, ?_⟩
        have I2 := I3.step 2 S
        obtain ⟨w4, S4⟩ := assign4 (I2.at 0) (.int .i64 (x.m.o : Int)) (.int .i64 (x.m.n : Int)) (.slice Y'.fp (x.m.o + 1) Y'.fc) (.slice Y'.vp V'.length Y'.vc)
        exact ⟨w4, after _ _ Y' fl' V' e G (I2.step 0 S4)⟩
    · have N3 := box4 h1 (.int .i64 0) (.int .i64 0) (.slice none 0 0) (.slice none 0 0) T.T_croftref5_Buddy
      generalize Array.push h1 (.cells #[.int .i64 0, .int .i64 0, .slice none 0 0, .slice none 0 0] T.T_croftref5_Buddy) = h3 at N3 ⊢
      have I3 := S1.new N3
      have X3 := ow_swap (I1.new N3)
      refine ⟨st5_cell (I3.at 4) (i := 2) (by omega), st5_cell (I3.at 4) (i := 1) (by omega), wzb_cell (I3.at 1) (i := 6) (by omega), wzb_cell (I3.at 1) (i := 7) (by omega), wzb_cell (I3.at 1) (i := 8) (by omega), wzb_cell (I3.at 1) (i := 9) (by omega), ?_⟩
      refine pageZ_ok hp W (X3.at 0) ⟨_, rfl, st5_cell (I3.at 4) (i := 2) (by omega), st5_cell (I3.at 4) (i := 1) (by omega), wzb_cell (I3.at 1) (i := 6) (by omega), wzb_cell (I3.at 1) (i := 7) (by omega), wzb_cell (I3.at 1) (i := 8) (by omega), wzb_cell (I3.at 1) (i := 9) (by omega), ?_⟩
      refine refShrink W (I3.at 2) fun h2 Y' fl' V' e G S => ⟨_, _, _, _, _, _, _, _, _, rfl, ?_⟩
      have I2 := I3.step 2 S
      obtain ⟨w4, S4⟩ := assign4 (I2.at 0) (.int .i64 (x.m.o : Int)) (.int .i64 (x.m.n : Int)) (.slice Y'.fp (x.m.o + 1) Y'.fc) (.slice Y'.vp V'.length Y'.vc)
      exact ⟨w4, after _ _ Y' fl' V' e G (I2.step 0 S4)⟩
  refine iF (by simpa using e6) ?_
  -- heads
  by_cases e7 : o0 = 7
  · refine iT (by simp [e7]) ⟨_, rfl, _, wz_cell (I1.at 0) (i := 5) (by omega), wz_heads W I1 fun h2 p2 c2 I2 => ⟨_, _, _, rfl, ?_⟩⟩
    refine headsZ_ok W (I2.at 1) fun h3 p3 c3 N3 => ⟨_, _, _, rfl, ?_⟩
    have I3 := I2.new N3
    refine ints_ok (by omega) (sl_uL (I3.at 1)) (sl_uL (I3.at 0)) ⟨_, rfl, fun J52 hJ52 => qT (by simp) ?_⟩
    have I4 := I3.drop.drop
    refine ⟨_, rfl, _, wz_cell (I4.at 0) (i := 5) (by omega), _, rfl, _, wz_cell (I4.at 0) (i := 5) (by omega), wz_heads W I4 fun h5 p5 c5 I5 => ⟨_, _, _, rfl, wz_cell (I5.at 1) (i := 5) (by omega), ?_⟩⟩
    refine wz_heads W (ow_swap I5) fun h6 p6 c6 I6 => ⟨_, _, _, rfl, ?_⟩
    have I7 := (ow_front3 I6).join
    refine apart5_ok (.inr rfl) (.inr rfl) (by omega) (by omega) (I7.at 0) fun h8 S8 => ⟨_, rfl, hJ52 _ _ fun J53 hJ53 => qT rfl ?_⟩
    have I8 := (I7.step 0 S8).drop
    refine ⟨_, rfl, _, wz_cell (I8.at 0) (i := 5) (by omega), wz_heads W I8 fun h9 p9 c9 I9 => ⟨_, _, _, rfl, ?_⟩⟩
    refine headsZ_ok W (I9.at 1) fun h10 p10 c10 N10 => ⟨_, _, _, rfl, ?_⟩
    have I10 := I9.new N10
    refine ints_ok (by omega) (sl_uL (I10.at 1)) (sl_uL (I10.at 0)) ⟨_, rfl, hJ53 _ _ ?_⟩
    rw [decide_eq_true rfl]
    exact fin0 _ _ I10.drop.drop
  refine iF (by simpa using e7) ?_
  -- free
  by_cases e8 : o0 = 8
  · have hlen := fl_len W o1
    refine iT (by simp [e8]) ⟨_, rfl, _, wz_cell (I1.at 0) (i := 5) (by omega), _, st5_cell (I1.at 1) (i := 1) (by omega), _, st5_cell (I1.at 1) (i := 1) (by omega), wz_free W I1 fun h2 p2 c2 l el I2 => ⟨_, _, _, rfl, st5_cell (I2.at 2) (i := 1) (by omega), ?_⟩⟩
    rw [← el] at hlen
    refine wz_want (i := 1) W I2 rfl fun h3 p3 c3 l' el' I3 => ⟨_, _, _, rfl, ?_⟩
    obtain rfl : l' = l := el'.trans el.symm
    refine ints_ok (by omega) (sl_uL (I3.at 1)) (sl_uL (I3.at 0)) ⟨_, rfl, fun J63 hJ63 => qT (by simp) ?_⟩
    have I4 := I3.drop.drop
    refine ⟨_, rfl, _, wz_cell (I4.at 0) (i := 5) (by omega), _, st5_cell (I4.at 1) (i := 1) (by omega), _, rfl, _, wz_cell (I4.at 0) (i := 5) (by omega), _, st5_cell (I4.at 1) (i := 1) (by omega), wz_free W I4 fun h5 p5 c5 l5 el5 I5 => ⟨_, _, _, rfl, st5_cell (I5.at 2) (i := 1) (by omega), wz_cell (I5.at 1) (i := 5) (by omega), ?_⟩⟩
    refine wz_free W (ow_swap I5) fun h6 p6 c6 l6 el6 I6 => ⟨_, _, _, rfl, ?_⟩
    have I7 := (ow_front3 I6).join
    refine apart5_ok (.inl rfl) (.inl rfl) (by rw [el5, ← el]; omega) (by rw [el6, ← el]; omega) (I7.at 0) fun h8 S8 => ⟨_, rfl, hJ63 _ _ fun J64 hJ64 => qT rfl ?_⟩
    have I8 := (I7.step 0 S8).drop
    refine ⟨_, rfl, _, wz_cell (I8.at 0) (i := 5) (by omega), _, st5_cell (I8.at 1) (i := 1) (by omega), _, st5_cell (I8.at 1) (i := 1) (by omega), wz_free W I8 fun h9 p9 c9 l9 el9 I9 => ⟨_, _, _, rfl, st5_cell (I9.at 2) (i := 1) (by omega), ?_⟩⟩
    refine wz_want (i := 1) W I9 rfl fun h10 p10 c10 l10 el10 I10 => ⟨_, _, _, rfl, ?_⟩
    obtain rfl : l10 = l9 := el10.trans el9.symm
    refine ints_ok (by rw [el9, ← el]; omega) (sl_uL (I10.at 1)) (sl_uL (I10.at 0)) ⟨_, rfl, hJ64 _ _ ?_⟩
    rw [decide_eq_true rfl]
    exact fin0 _ _ I10.drop.drop
  refine iF (by simpa using e8) ?_
  -- open
  by_cases e9 : o0 = 9
  · refine iT (by simp [e9]) ⟨_, st5_cell (I1.at 1) (i := 1) (by omega), openedZ_ok W (I1.at 0) fun h2 Q' eq S => ⟨_, rfl, hK h2 Q' x fl V eq W (I1.step 0 S).stp⟩⟩
  refine iF (by simpa using e9) ?_
  -- fill
  by_cases e10 : o0 = 10
  · refine iT (by simp [e10]) fun L72 hL72 => ?_
    have loop : ∀ (d i : Nat) (hx : Heap) (x' : BU), i + d = V.length → WI c x' fl V → x'.m = x.m → Go.V.Own h hx (wzR c Q x fl V) [wzR c Q x' fl V, blkR b0 5 (st5 o0 o1 o2 o3 a4)] →
        L72 [.pointer (some ⟨Q.wb, 0, none⟩), .pointer (some ⟨b0, 0, none⟩), .int .i64 (i : Int)] hx := by
      intro d
      induction d with
      | zero =>
        intro i hx x' hi W' em I
        exact hL72 _ _ _ _ ⟨_, rfl, _, _, _, wz_cell (I.at 0) (i := 9) (by omega), iF (decide_eq_false (by omega)) (hJ2 _ (hK hx Q x' fl V rfl W' I.stp))⟩
      | succ d ih =>
        intro i hx x' hi W' em I
        have hiV : i < V.length := by omega
        obtain ⟨b9, r1, q1⟩ := sl_cell (wz_rf (I.at 0)).2.1 (i := i * 2) (by omega)
        obtain ⟨b9', r2, q2⟩ := sl_cell (wz_rf (I.at 0)).2.1 (i := i * 2 + 1) (by omega)
        obtain rfl : b9' = b9 := by rw [r1] at r2; simpa using r2.symm
        have hg : (prL V).getD i (0, 0) = prV V[i] := by
          rw [List.getD_eq_getElem?_getD, List.getElem?_map, List.getElem?_eq_getElem hiV]; rfl
        rw [(runV_at _ _).1, hg] at q1
        rw [(runV_at _ _).2, hg] at q2
        have hm := List.getElem_mem hiV
        have al := W'.al5 _ hm
        have q1' : cellAt hx ((⟨b9', 0, none⟩ : Addr).add (Int.toNat (i : Int) * 2)) = some (.int .i64 (V[i].1 : Int)) := by rw [add_mk, Int.toNat_natCast, Nat.zero_add]; exact q1
        have q2' : cellAt hx (((⟨b9', 0, none⟩ : Addr).add (Int.toNat (i : Int) * 2)).add 1) = some (.int .i64 (V[i].2 : Int)) := by rw [add_mk, add_mk, Int.toNat_natCast, Nat.zero_add]; exact q2
        have k8 : V[i].2 ≤ 8 := by have := W'.ok.m.o8; omega
        refine hL72 _ _ _ _ ⟨_, rfl, _, _, _, wz_cell (I.at 0) (i := 9) (by omega), iT (decide_eq_true (by omega)) ⟨_, rfl, _, wz_cell (I.at 0) (i := 3) (by omega), _, rfl, _, _, _, wz_cell (I.at 0) (i := 9) (by omega), _, r1, by omega, by omega, _, q1', _, rfl, _, _, _, wz_cell (I.at 0) (i := 9) (by omega), _, r1, by omega, by omega, _, q2', by rw [IntKind.wrap_u64]; omega, _, st5_cell (I.at 1) (i := 1) (by omega), ?_⟩⟩
        refine atZ_ok (x := x') W'.g (by omega) (wz_c0 (I.at 0)) W'.ok.m ⟨_, rfl, st5_cell (I.at 1) (i := 1) (by omega), q2', wz_cell (I.at 0) (i := 9) (by omega), wz_cell (I.at 0) (i := 3) (by omega), ?_⟩
        rw [(shl64 k8).1]
        have J := wz_split I
        refine fillB (p := V[i].1) (k := V[i].2) W' hm ⟨by rw [IntKind.wrap_u8]; omega, by rw [IntKind.wrap_u8]; omega⟩ (J.at 2) fun st' h3 W3 S3 => ⟨_, rfl, iF rfl ?_⟩
        rw [show IntKind.wrap .i64 ((i : Int) + 1) = ((i + 1 : Nat) : Int) by rw [IntKind.wrap_i64]; omega]
        exact ih (i + 1) h3 ⟨st', x'.hd, x'.m⟩ (by omega) W3 em (wz_join (x := ⟨st', x'.hd, x'.m⟩) (J.step 2 S3))
    exact loop V.length 0 h1 x (by omega) W rfl I1
  refine iF (by simpa using e10) ?_
  -- look
  by_cases e11 : o0 = 11
  · refine iT (by simp [e11]) (looksZ_ok W (I1.at 0) fun h2 S => ⟨_, rfl, fin0 _ _ (I1.step 0 S)⟩)
  exact iF (by simpa using e11) (hJ2 _ (fin0 _ _ I1))
end
end Go.Proofs.YtnlcmfdmbgnpfaaGreat
