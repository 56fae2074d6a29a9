/- Chapter 4: PageKnown. No condition. -/
import Derived.Test.YtnplkinakaepdaaR5
set_option linter.unusedSimpArgs false
set_option linter.unusedVariables false
namespace Go.Proofs.Ytnplkinakaepdaa
open Go.V Classical

attribute [local irreducible] k1 k2 k3 k4 k5 k6 k7 k8 k9 kA

set_option maxHeartbeats 4000000 in
theorem PageKnown_law {w : World} : CallV Try.prog w F.croftlaw4_PageKnown [] w.heap fun v h' => v = .bool true ∧ Upd NoB w.heap h' := by
  refine croftlaw4_PageKnown.call ?_
  unfold croftlaw4_PageKnown.vc
  have bd : ∀ x : Int, -100 ≤ x ∧ x ≤ 100 → bd63 x := fun x h => by unfold bd63; omega
  refine pg_awake_ok fun h18 u18 => ⟨true, rfl, iF rfl (pm_New_ok fun h20 mb w20 N20 => ⟨_, rfl, ?_⟩)⟩
  have I0 := ((Hold.nil w.heap).quiet u18).new N20
  refine pm_Grow_ok (mNew_ok 2) (I0.at 0) fun h22 m1 S => ⟨rfl, ?_⟩
  rw [s01] at S
  have I1 : Hold w.heap h22 [mapR mb k1 m1] := I0.step 0 S
  clear S
  refine pm_Run_u k1_ok (bd _ (by omega)) (bd _ (by omega)) (I1.at 0 (R := mapR mb k1 m1)) fun k2h S2 => ⟨_, rfl, ?_⟩
  rw [e11] at S2 ⊢
  dsimp only at S2 ⊢
  have I2 := I1.step 0 S2
  intro J5 c5
  refine pF rfl (pm_Run_u k1_ok (bd _ (by omega)) (bd _ (by omega)) (I2.at 0 (R := mapR mb k1 m1)) fun k3h S3 => ⟨_, rfl, ?_⟩)
  rw [e12] at S3 ⊢
  dsimp only at S3 ⊢
  have I3 := I2.step 0 S3
  refine c5 _ _ ?_
  intro J6 c6
  refine pF rfl (pm_Run_u k2_ok (bd _ (by omega)) (bd _ (by omega)) (I3.at 0 (R := mapR mb k2 m1)) fun k4h S4 => ⟨_, rfl, ?_⟩)
  rw [e13] at S4 ⊢
  dsimp only at S4 ⊢
  have I4 := I3.step 0 S4
  refine c6 _ _ ?_
  intro J7 c7
  refine pF rfl (pm_Run_u k2_ok (bd _ (by omega)) (bd _ (by omega)) (I4.at 0 (R := mapR mb k2 m1)) fun k5h S5 => ⟨_, rfl, ?_⟩)
  rw [e14] at S5 ⊢
  dsimp only at S5 ⊢
  have I5 := I4.step 0 S5
  refine c7 _ _ (iF rfl ?_)
  refine pm_At_ok (I5.at 0 (R := mapR mb k2 m1)) (fun m hm hmn k6h u6 => ⟨_, _, _, _, _, _, _, _, _, _, _, _, rfl, ?_⟩) fun hn => absurd kin hn
  obtain rfl : m = 2 := by omega
  obtain ⟨x6, N6⟩ := pg_lay k6h (k2.pg 2)
  have I6 := (I5.quiet u6).new N6
  refine ⟨x6, ?_⟩
  refine pm_At_ok (I6.at 1 (R := mapR mb k2 m1)) (fun m hm hmn k7h u7 => ⟨_, _, _, _, _, _, _, _, _, _, _, _, rfl, ?_⟩) fun hn => absurd kin3 hn
  obtain rfl : m = 3 := by omega
  obtain ⟨x7, N7⟩ := pg_lay k7h (k2.pg 3)
  have I7 := (I6.quiet u7).new N7
  refine ⟨x7, ?_⟩
  refine pm_At_ok (I7.at 2 (R := mapR mb k2 m1)) (fun m hm hmn => absurd hmn (by rw [k2n]; omega)) fun hn k8h u8 => ⟨_, _, _, _, _, _, _, _, _, _, _, _, rfl, ?_⟩
  obtain ⟨x8, N8⟩ := pg_lay k8h (fun _ => 0)
  have I8 := (I7.quiet u8).new N8
  refine ⟨x8, ?_⟩
  intro J17 c17
  refine pF rfl (c17 _ _ ?_)
  intro J18 c18
  refine pF rfl (c18 _ _ ?_)
  intro J19 c19
  refine pF rfl (pgR_ld (I8.at 2 (R := pgR _ (k2.pg 2))) (c19 _ _ ?_))
  intro J20 c20
  refine pF q2 (pgR_ld (I8.at 1 (R := pgR _ (k2.pg 3))) (c20 _ _ ?_))
  intro J21 c21
  refine pF q3 (pm_Head_u k2_ok (I8.at 3 (R := mapR mb k2 m1)) fun k9h u9 => ⟨_, rfl, ?_⟩)
  rw [h3]
  have I9 := I8.quiet u9
  refine c21 _ _ ?_
  intro J22 c22
  refine pF rfl (pm_Head_u k2_ok (I9.at 3 (R := mapR mb k2 m1)) fun k10h u10 => ⟨_, rfl, ?_⟩)
  rw [h1]
  have I10 := I9.quiet u10
  refine c22 _ _ ?_
  intro J23 c23
  refine pF rfl (pm_Head_u k2_ok (I10.at 3 (R := mapR mb k2 m1)) fun k11h u11 => ⟨_, rfl, ?_⟩)
  rw [h9]
  have I11 := I10.quiet u11
  refine c23 _ _ (iF rfl ?_)
  refine pm_Slab_u k2_ok  (I11.at 3 (R := mapR mb k2 m1)) fun k12h S12 => ⟨_, rfl, ?_⟩
  rw [e23] at S12 ⊢
  dsimp only at S12 ⊢
  have I12 := I11.step 3 S12
  intro J25 c25
  refine pF rfl (pm_Own_u k3_ok  (I12.at 3 (R := mapR mb k3 m1)) fun k13h S13 => ⟨_, rfl, ?_⟩)
  rw [e33] at S13 ⊢
  dsimp only at S13 ⊢
  have I13 := I12.step 3 S13
  refine c25 _ _ ?_
  intro J26 c26
  refine pF rfl (pm_Own_u k3_ok  (I13.at 3 (R := mapR mb k3 m1)) fun k14h S14 => ⟨_, rfl, ?_⟩)
  rw [e34] at S14 ⊢
  dsimp only at S14 ⊢
  have I14 := I13.step 3 S14
  refine c26 _ _ ?_
  intro J27 c27
  refine pF rfl (pm_Own_u k4_ok  (I14.at 3 (R := mapR mb k4 m1)) fun k15h S15 => ⟨_, rfl, ?_⟩)
  rw [e44] at S15 ⊢
  dsimp only at S15 ⊢
  have I15 := I14.step 3 S15
  refine c27 _ _ ?_
  intro J28 c28
  refine pF rfl (pm_Chain_u k4_ok  (I15.at 3 (R := mapR mb k4 m1)) fun k16h S16 => ⟨_, rfl, ?_⟩)
  rw [e45] at S16 ⊢
  dsimp only at S16 ⊢
  have I16 := I15.step 3 S16
  refine c28 _ _ ?_
  intro J29 c29
  refine pF rfl (pm_Chain_u k4_ok  (I16.at 3 (R := mapR mb k4 m1)) fun k17h S17 => ⟨_, rfl, ?_⟩)
  rw [e46] at S17 ⊢
  dsimp only at S17 ⊢
  have I17 := I16.step 3 S17
  refine c29 _ _ ?_
  intro J30 c30
  refine pF rfl (pm_First_u k5_ok  (I17.at 3 (R := mapR mb k5 m1)) fun k18h S18 => ⟨_, rfl, ?_⟩)
  rw [e56] at S18 ⊢
  dsimp only at S18 ⊢
  have I18 := I17.step 3 S18
  refine c30 _ _ ?_
  intro J31 c31
  refine pF rfl (pm_First_u k6_ok  (I18.at 3 (R := mapR mb k6 m1)) fun k19h S19 => ⟨_, rfl, ?_⟩)
  rw [e66] at S19 ⊢
  dsimp only at S19 ⊢
  have I19 := I18.step 3 S19
  refine c31 _ _ ?_
  intro J32 c32
  refine pF rfl (pm_First_u k6_ok  (I19.at 3 (R := mapR mb k6 m1)) fun k20h S20 => ⟨_, rfl, ?_⟩)
  rw [e67] at S20 ⊢
  dsimp only at S20 ⊢
  have I20 := I19.step 3 S20
  refine c32 _ _ (iF rfl ?_)
  refine pm_At_ok (I20.at 3 (R := mapR mb k6 m1)) (fun m hm hmn k21h u21 => ⟨_, _, _, _, _, _, _, _, _, _, _, _, rfl, ?_⟩) fun hn => absurd k6in hn
  obtain rfl : m = 1 := by omega
  obtain ⟨x21, N21⟩ := pg_lay k21h (k6.pg 1)
  have I21 := (I20.quiet u21).new N21
  refine ⟨x21, ?_⟩
  clear N21 x21
  generalize setCs (Array.push k21h zpO) ⟨k21h.size, 0, none⟩ 0 (pgL (k6.pg 1)) = HH at I21 ⊢
  obtain ⟨y1, M1⟩ := wantNew HH
  have IW := I21.new M1
  obtain ⟨y2, S2⟩ := pg_set1 (IW.at 0 (R := pgR _ wantP)) (i := 7) (by omega) 2
  have IX := IW.step 0 S2
  refine ⟨y1, by decide, by decide, ?_⟩
  rw [show ((⟨_, 0, none⟩ : Addr).add 7).add (Int.toNat (0 : Int) * 1) = ⟨_, 7, none⟩ from rfl]
  refine ⟨y2, ?_⟩
  intro J39 c39
  refine pF rfl (pgR_ld (IX.at 1 (R := pgR _ (k6.pg 1))) (pgR_ld (IX.at 0 (R := pgR _ _)) (c39 _ _ ?_)))
  intro J40 c40
  refine pF q6 (pm_Pair_ok k6_ok (IX.at 5 (R := mapR mb k6 m1)) (fun k m hk hko hm hmn k40h u40 => ⟨_, rfl, ?_⟩) fun hn => absurd p63 hn)
  obtain rfl : k = 0 := by omega
  obtain rfl : m = 3 := by omega
  have IY := IX.quiet u40
  rw [b63]
  refine c40 _ _ (iF rfl ?_)
  refine pm_Flip_ok k6_ok (IY.at 5 (R := mapR mb k6 m1)) (fun k m hk hko hm hmn f1h S1f => ⟨_, _, rfl, ?_⟩) fun hn => absurd p63 hn
  obtain rfl : k = 0 := by omega
  obtain rfl : m = 3 := by omega
  rw [b63]
  rw [s67] at S1f
  have F1 : Hold w.heap f1h _ := IY.step 5 (R' := mapR mb k7 m1) S1f
  refine pm_Flip_ok k7_ok (F1.at 5 (R := mapR mb k7 m1)) (fun k m hk hko hm hmn => absurd hko (by rw [k7o]; omega)) fun hn f2h u2f => ⟨_, _, rfl, ?_⟩
  have F2 := F1.quiet u2f
  refine pm_Flip_ok k7_ok (F2.at 5 (R := mapR mb k7 m1)) (fun k m hk hko hm hmn f3h S3f => ⟨_, _, rfl, ?_⟩) fun hn => absurd p71 hn
  obtain rfl : k = 1 := by omega
  obtain rfl : m = 0 := by omega
  rw [b71]
  rw [s78] at S3f
  have F3 : Hold w.heap f3h _ := F2.step 5 (R' := mapR mb k8 m1) S3f
  intro J44 c44
  refine pF rfl (c44 _ _ ?_)
  intro J45 c45
  refine pF rfl (pm_Pair_ok k8_ok (F3.at 5 (R := mapR mb k8 m1)) (fun k m hk hko hm hmn g1h u1g => ⟨_, rfl, ?_⟩) fun hn => absurd p82 hn)
  obtain rfl : k = 0 := by omega
  obtain rfl : m = 2 := by omega
  rw [b82]
  have G1 := F3.quiet u1g
  refine c45 _ _ ?_
  intro J46 c46
  refine pF rfl (pm_Pair_ok k8_ok (G1.at 5 (R := mapR mb k8 m1)) (fun k m hk hko hm hmn g2h u2g => ⟨_, rfl, ?_⟩) fun hn => absurd p81 hn)
  obtain rfl : k = 0 := by omega
  obtain rfl : m = 1 := by omega
  rw [b81]
  have G2 := G1.quiet u2g
  refine c46 _ _ ?_
  intro J47 c47
  refine pF rfl (c47 _ _ ?_)
  intro J48 c48
  refine pF rfl (c48 _ _ ?_)
  intro J49 c49
  refine pF rfl (c49 _ _ (iF rfl ?_))
  refine pm_Plain_ok k8_ok (G2.at 5 (R := mapR mb k8 m1)) fun pxh gpx gcx qpx qcx wpx wcx Nx => ⟨_, _, _, _, _, _, rfl, ?_⟩
  have Px := G2.new Nx
  obtain ⟨r1x, r2x⟩ := plain_in Nx.p
  obtain ⟨bx, ox, ebx, c0x⟩ := row_at r2x.row (i := 0) (by rw [k8o]; omega)
  obtain ⟨b'x, o'x, eb'x, c1x⟩ := row_at r2x.row (i := 1) (by rw [k8o]; omega)
  obtain ⟨d0x, f0x, ed0x, z0x⟩ := row_at (r2x.wd 0 (by rw [k8o]; omega)) (i := 0) (by rw [n80]; omega)
  obtain ⟨d1x, f1x, ed1x, z1x⟩ := row_at (r2x.wd 1 (by rw [k8o]; omega)) (i := 0) (by rw [n81]; omega)
  rw [w80] at z0x
  rw [w81] at z1x

  rw [n80] at c0x
  rw [n81] at c1x
  intro J51 c51
  refine pF (by rw [k8n]; rfl) (c51 _ _ ?_)
  intro J52 c52
  refine pF (by rw [k8o]; rfl) ⟨_, ebx, by decide, (by rw [k8o]; decide), _, _, _, c0x, c52 _ _ ?_⟩
  intro J53 c53
  refine pF rfl ⟨_, eb'x, by decide, (by rw [k8o]; decide), _, _, _, c1x, c53 _ _ ?_⟩
  intro J54 c54
  refine pF rfl ⟨_, ebx, by decide, (by rw [k8o]; decide), _, _, _, c0x, _, ed0x, by decide, by decide, _, z0x, c54 _ _ ?_⟩
  intro J55 c55
  refine pF rfl ⟨_, eb'x, by decide, (by rw [k8o]; decide), _, _, _, c1x, _, ed1x, by decide, by decide, _, z1x, c55 _ _ (iF rfl ?_)⟩
  have hcx : k8.n ≤ gcx := Nx.p.1.1
  have hn4 : k8.n = 4 := k8n
  refine ⟨by omega, by omega, by omega, ?_⟩
  rw [sl_front Nx.p.1 rfl]
  have hno : ∀ (o : Int) (n : Nat) (wn : Nat → Nat), (o = 2 ∧ n = 3) ∨ o = 1 → ¬ OpenOk o n k8.pg k8.o wn := fun o n wn h F => by
    rcases h with ⟨rfl, rfl⟩ | rfl
    · exact absurd F.al (by decide)
    · exact absurd F.mo (by rw [k8o]; decide)
  refine pm_Open_ok (n := 3) (m := k8.o) (pg := k8.pg) (wp := wpx) (wn := _) (wc := wcx) (ws := _) (by decide) (by rw [k8o]; decide) (r1x.take (by rw [k8n]; decide)) r2x (fun F => absurd F (hno _ _ _ (.inl ⟨rfl, rfl⟩))) fun _ o1h u1o => ⟨_, _, rfl, ?_⟩
  have Q1 := Px.quiet u1o
  refine pm_Open_ok (n := k8.n) (m := k8.o) (pg := k8.pg) (wp := wpx) (wn := _) (wc := wcx) (ws := _) (by rw [k8n]; decide) (by rw [k8o]; decide) (r1x.upd u1o fun _ _ e => e.elim) (r2x.upd u1o) (fun F => absurd F (hno _ _ _ (.inr rfl))) fun _ o2h u2o => ⟨_, _, rfl, ?_⟩
  have Q2 := Q1.quiet u2o
  intro J58 c58
  refine pF rfl (c58 _ _ ?_)
  intro J59 c59
  refine pF rfl (pm_Shrink_u k8_ok (bd _ (by omega)) (Q2.at 6 (R := mapR mb k8 m1)) fun k22h mm22 S22 => ⟨_, rfl, ?_⟩)
  rw [e89] at S22 ⊢
  dsimp only at S22 ⊢
  have I22 := Q2.step 6 S22
  refine c59 _ _ (iF rfl ?_)
  refine pm_Grow_ok k9_ok (I22.at 6 (R := mapR mb k9 mm22)) fun gh mA SA => ⟨rfl, ?_⟩
  rw [s9A] at SA
  have IA : Hold w.heap gh _ := I22.step 6 (R' := mapR mb kA mA) SA
  refine pm_Plain_ok kA_ok (IA.at 6 (R := mapR mb kA mA)) fun pvh gpv gcv qpv qcv wpv wcv Nv => ⟨_, _, _, _, _, _, rfl, ?_⟩
  have Pv := IA.new Nv
  obtain ⟨r1v, r2v⟩ := plain_in Nv.p
  obtain ⟨bv, ov, ebv, c0v⟩ := row_at r2v.row (i := 0) (by rw [kAo]; omega)
  obtain ⟨b'v, o'v, eb'v, c1v⟩ := row_at r2v.row (i := 1) (by rw [kAo]; omega)
  obtain ⟨d0v, f0v, ed0v, z0v⟩ := row_at (r2v.wd 0 (by rw [kAo]; omega)) (i := 0) (by rw [nA0]; omega)
  obtain ⟨d1v, f1v, ed1v, z1v⟩ := row_at (r2v.wd 1 (by rw [kAo]; omega)) (i := 0) (by rw [nA1]; omega)
  rw [wA0] at z0v
  rw [wA1] at z1v

  rw [nA0] at c0v
  rw [nA1] at c1v
  intro J62 c62
  refine qT (by rw [kAo]; rfl) ⟨_, ebv, by decide, (by rw [kAo]; decide), _, _, _, c0v, c62 _ _ ?_⟩
  intro J63 c63
  refine qT rfl ⟨_, eb'v, by decide, (by rw [kAo]; decide), _, _, _, c1v, c63 _ _ ?_⟩
  intro J64 c64
  refine qT rfl ⟨_, ebv, by decide, (by rw [kAo]; decide), _, _, _, c0v, _, ed0v, by decide, by decide, _, z0v, c64 _ _ ?_⟩
  intro J65 c65
  exact qT rfl ⟨_, eb'v, by decide, (by rw [kAo]; decide), _, _, _, c1v, _, ed1v, by decide, by decide, _, z1v, c65 _ _ ⟨rfl, Pv.u⟩⟩

end Go.Proofs.Ytnplkinakaepdaa
