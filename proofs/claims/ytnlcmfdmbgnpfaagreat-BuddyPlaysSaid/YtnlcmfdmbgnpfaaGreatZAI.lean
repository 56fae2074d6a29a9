/- croftlaw5: a world with the document's buddy: come, goes. No condition. -/
import Derived.Test.YtnlcmfdmbgnpfaaGreatZAH
set_option linter.unusedSimpArgs false
set_option linter.unusedVariables false
namespace Go.Proofs.YtnlcmfdmbgnpfaaGreat
open Go.V Classical

section
variable {w₀ : World} {h h' : Heap} {c : Cfg} {Q : WZ} {x : BU} {fl : Nat → List Nat} {V : List PBk} {K : Value → Heap → Prop}

theorem wzF_W {W' : BW} {O P n : Nat} (h1 : W'.s = Q.W.s) (h2 : W'.mb = Q.W.mb) (h3 : W'.b = Q.W.b) : wzF c { Q with W := W' } O P n = wzF c Q O P n := by
  funext i
  unfold wzF
  split <;> simp [h1, h2, h3]

theorem comeZ_ok (W : WI c x fl V) (hl : (x.st.n : Int) < c.limit) (H : (wzR c Q x fl V).P h)
    (hK : ∀ (h' : Heap) (Q' : WZ) (x' : BU), Q'.wb = Q.wb → WI c x' fl (V ++ [(x.m.n, x.m.o)]) → x'.m.o = x.m.o → Stp h h' (wzR c Q x fl V) (wzR c Q' x' fl (V ++ [(x.m.n, x.m.o)])) → K (.bool true) h') :
    CallV Tryz.prog w₀ F.croftlaw5_world_come [.pointer (some ⟨Q.wb, 0, none⟩)] h K := by
  refine croftlaw5_world_come.call ?_
  unfold croftlaw5_world_come.vc
  have hx := W.ok
  have hroom := room W hl
  obtain ⟨W5, go, gn, _, _⟩ := comeS W hl
  have W5 := W5.perm (L' := V ++ [(x.m.n, x.m.o)]) (List.perm_append_comm (l₁ := [(x.m.n, x.m.o)]) (l₂ := V))
  have I0 := wz_split (Go.V.Own.of H)
  refine ⟨_, rfl, _, wzb_cell (I0.at 0) (i := 3) (by omega), commit_ok (bu_sp (I0.at 2)) hl fun Z' h1 S1 => ⟨_, _, rfl, fun J2 hJ2 => ?_⟩⟩
  have I1 := I0.step 2 (bu_liftZ (I0.at 2) S1)
  have ok1 : BU.Ok c ⟨growS c x.st, x.hd, x.m⟩ := ⟨hx.m, hx.o, hx.b⟩
  have ap := feed_apart (c := c) (apart_none W.e (growS c x.st) rfl)
  refine pF rfl ⟨_, rfl, _, wzb_cell (I1.at 0) (i := 5) (by omega), ?_⟩
  refine bu_Feed_ok (W := { Q.W with Z := Z' }) ok1 (I1.at 2) fun h2 ok2 o2 S2 => ⟨_, rfl, hJ2 _ _ fun J3 hJ3 => ?_⟩
  rw [ap.1] at S2
  have I2 := I1.step 2 S2
  rw [ap.1]
  refine pF rfl ⟨_, rfl, _, wzb_cell (I2.at 0) (i := 5) (by omega), ?_⟩
  refine bu_Pull_ok (W := { Q.W with Z := Z' }) ok1 (I2.at 2) fun h3 ok3 o3 S3 => ⟨_, rfl, hJ3 _ _ ?_⟩
  rw [ap.2] at S3
  have I3 := I2.step 2 S3
  rw [ap.2]
  refine iF rfl ⟨_, rfl, _, wzb_cell (I3.at 0) (i := 4) (by omega), ?_⟩
  refine pm_Grow_ok hx.m (bu_map (W := { Q.W with Z := Z' }) (x := ⟨growS c x.st, x.hd, x.m⟩) (I3.at 2)) fun h4 w' S4 => ⟨rfl, ?_⟩
  have I4 := I3.step 2 (bu_liftw (W := { Q.W with Z := Z' }) (x := ⟨growS c x.st, x.hd, x.m⟩) (I3.at 2) go S4)
  have I4 : Go.V.Own h h4 (wzR c Q x fl V) [blkR Q.wb 10 (wzF c Q x.m.o x.m.n V.length), rfR Q.Y x.m.o fl V, buR c { Q.W with Z := Z', w := w' } ⟨growS c x.st, x.hd, mGrow x.m⟩] := I4
  refine ⟨_, rfl, _, wzb_cell (I4.at 0) (i := 6) (by omega), _, wzb_cell (I4.at 0) (i := 7) (by omega), _, _, _, wzb_cell (I4.at 0) (i := 8) (by omega), _, _, _, wzb_cell (I4.at 0) (i := 9) (by omega), ?_⟩
  refine come5_ok (Y := Q.Y) (fl := fl) (L := V) hx.m.o8 hx.m.n1 (by have := W.lenV; omega) (I4.at 1) fun h5 Y' S5 => ?_
  have I5 := I4.step 1 S5
  obtain ⟨w6, S6⟩ := wz_put (I5.at 0) Y' (x.m.n + 2 ^ x.m.o) (V ++ [(x.m.n, x.m.o)]).length
  refine ⟨_, _, _, _, _, _, _, _, rfl, _, rfl, w6, ?_⟩
  have I6 := I5.step 0 S6
  generalize setCs h5 ((⟨Q.wb, 0, none⟩ : Addr).add 6) 0 [.int .i64 (x.m.o : Int), .int .i64 ((x.m.n + 2 ^ x.m.o : Nat) : Int), .slice Y'.fp (x.m.o + 1) Y'.fc, .slice Y'.vp (V ++ [(x.m.n, x.m.o)]).length Y'.vc] = h6 at I6 ⊢
  refine ⟨_, rfl, _, wzb_cell (Q := { Q with Y := Y' }) (I6.at 0) (i := 4) (by omega), _, rfl, _, wzb_cell (Q := { Q with Y := Y' }) (I6.at 0) (i := 7) (by omega), ?_⟩
  refine pm_Pages_ok (bu_map (W := { Q.W with Z := Z', w := w' }) (I6.at 2)) ⟨_, rfl, wzb_cell (Q := { Q with Y := Y' }) (I6.at 0) (i := 7) (by omega), ?_⟩
  have e7 : ((((⟨growS c x.st, x.hd, mGrow x.m⟩ : BU).m.n : Nat) : Int) == (((x.m.n + 2 ^ x.m.o : Nat) : Int))) = true := by show ((((mGrow x.m).n : Nat) : Int) == _) = true; rw [gn]; simp
  have I7 : Go.V.Own h h6 (wzR c Q x fl V) (blkR Q.wb 10 (wzF c { Q with Y := Y', W := { Q.W with Z := Z', w := w' } } x.m.o (x.m.n + 2 ^ x.m.o) (V ++ [(x.m.n, x.m.o)]).length) :: rfR Y' x.m.o fl (V ++ [(x.m.n, x.m.o)]) :: buR c { Q.W with Z := Z', w := w' } ⟨growS c x.st, x.hd, mGrow x.m⟩ :: []) := by
    have e := wzF_W (c := c) (Q := { Q with Y := Y' }) (W' := { Q.W with Z := Z', w := w' }) (O := x.m.o) (P := x.m.n + 2 ^ x.m.o) (n := (V ++ [(x.m.n, x.m.o)]).length) rfl rfl rfl
    have e : wzF c { Q with Y := Y', W := { Q.W with Z := Z', w := w' } } x.m.o (x.m.n + 2 ^ x.m.o) (V ++ [(x.m.n, x.m.o)]).length = wzF c { Q with Y := Y' } x.m.o (x.m.n + 2 ^ x.m.o) (V ++ [(x.m.n, x.m.o)]).length := e
    rw [e]
    exact I6
  have e7 : (((mGrow x.m).n : Int) == ((x.m.n + 2 ^ x.m.o : Nat) : Int)) = true := e7
  show K (.bool (((mGrow x.m).n : Int) == ((x.m.n + 2 ^ x.m.o : Nat) : Int))) h6
  rw [e7]
  exact hK h6 { Q with Y := Y', W := { Q.W with Z := Z', w := w' } } ⟨growS c x.st, x.hd, mGrow x.m⟩ rfl W5 go (wz_join' (Q := { Q with Y := Y', W := { Q.W with Z := Z', w := w' } }) (x := ⟨growS c x.st, x.hd, mGrow x.m⟩) I7 go gn rfl).stp

theorem goesZ_ok (W : WI c x fl V) (hn : x.m.n ≠ 0) (hin : (x.m.n - 2 ^ x.m.o, x.m.o) ∈ V) (H : (wzR c Q x fl V).P h)
    (hK : ∀ (h' : Heap) (Q' : WZ) (x' : BU), Q'.wb = Q.wb → WI c x' fl (V.filter (·.1 ≠ x.m.n - 2 ^ x.m.o)) → x'.m.o = x.m.o → Stp h h' (wzR c Q x fl V) (wzR c Q' x' fl (V.filter (·.1 ≠ x.m.n - 2 ^ x.m.o))) → K (.bool true) h') :
    CallV Tryz.prog w₀ F.croftlaw5_world_goes [.pointer (some ⟨Q.wb, 0, none⟩)] h K := by
  refine croftlaw5_world_goes.call ?_
  unfold croftlaw5_world_goes.vc
  have hx := W.ok
  have hle := W.le5 hn
  have h0 := Nat.two_pow_pos x.m.o
  have hs := W.st0 hn
  have nr := W.nr
  have hdiv : 1 ≤ x.m.n / 2 ^ x.m.o := (Nat.le_div_iff_mul_le h0).2 (by omega)
  obtain ⟨W5, go, gn⟩ := goS (W.perm (W.out hin)) hs id
  have I0 := wz_split (Go.V.Own.of H)
  refine ⟨_, rfl, _, wzb_cell (I0.at 0) (i := 3) (by omega), mem_Decommit_ok (by omega) (bu_sp (I0.at 2)) (fun hc => absurd hc (by omega)) fun m em hm h1 u1 hs1 H1 => ⟨_, rfl, fun J2 hJ2 => ?_⟩⟩
  have em : m = x.st.n - 1 := by omega
  subst em
  have S1 : Stp h h1 (spR Q.W.s c Q.W.Z x.st) (spR Q.W.s c Q.W.Z ⟨x.st.n - 1, x.st.M⟩) := ⟨u1, H1, fun b e => .inl e⟩
  have I1 := I0.step 2 (bu_liftsp (I0.at 2) S1)
  refine pF rfl ⟨_, rfl, _, wzb_cell (I1.at 0) (i := 4) (by omega), ?_⟩
  refine pm_Shrink_ok (k := 1) hx.m (by omega) (bu_map (x := ⟨⟨x.st.n - 1, x.st.M⟩, x.hd, x.m⟩) (I1.at 2)) (fun y ey hy h2 w2 S2 => ⟨_, rfl, hJ2 _ _ (iF rfl ?_)⟩) fun hc => absurd (show (0 : Int) ≤ 1 ∧ (1 : Int) ≤ ((x.m.n / 2 ^ x.m.o : Nat) : Int) from ⟨by omega, by omega⟩) hc
  have ey : y = 1 := by omega
  subst ey
  have I2 := I1.step 2 (bu_liftw (x := ⟨⟨x.st.n - 1, x.st.M⟩, x.hd, x.m⟩) (m' := mShrink x.m 1) (w' := w2) (I1.at 2) rfl S2)
  have I2 : Go.V.Own h h2 (wzR c Q x fl V) [blkR Q.wb 10 (wzF c Q x.m.o x.m.n V.length), rfR Q.Y x.m.o fl V, buR c { Q.W with w := w2 } ⟨⟨x.st.n - 1, x.st.M⟩, x.hd, mShrink x.m 1⟩] := I2
  refine ⟨_, rfl, _, wzb_cell (I2.at 0) (i := 6) (by omega), _, wzb_cell (I2.at 0) (i := 7) (by omega), _, _, _, wzb_cell (I2.at 0) (i := 8) (by omega), _, _, _, wzb_cell (I2.at 0) (i := 9) (by omega), ?_⟩
  refine go5_ok (Y := Q.Y) (fl := fl) (L := V) hx.m.o8 hx.m.n1 hle (by have := W.lenV; omega) (I2.at 1) fun h5 Y' S5 => ?_
  have I5 := I2.step 1 S5
  obtain ⟨w6, S6⟩ := wz_put (I5.at 0) Y' (x.m.n - 2 ^ x.m.o) (V.filter (·.1 ≠ x.m.n - 2 ^ x.m.o)).length
  refine ⟨_, _, _, _, _, _, _, _, rfl, _, rfl, w6, ?_⟩
  have I6 := I5.step 0 S6
  generalize setCs h5 ((⟨Q.wb, 0, none⟩ : Addr).add 6) 0 [.int .i64 (x.m.o : Int), .int .i64 ((x.m.n - 2 ^ x.m.o : Nat) : Int), .slice Y'.fp (x.m.o + 1) Y'.fc, .slice Y'.vp (V.filter (·.1 ≠ x.m.n - 2 ^ x.m.o)).length Y'.vc] = h6 at I6 ⊢
  have I7 : Go.V.Own h h6 (wzR c Q x fl V) (blkR Q.wb 10 (wzF c { Q with Y := Y', W := { Q.W with w := w2 } } x.m.o (x.m.n - 2 ^ x.m.o) (V.filter (·.1 ≠ x.m.n - 2 ^ x.m.o)).length) :: rfR Y' x.m.o fl (V.filter (·.1 ≠ x.m.n - 2 ^ x.m.o)) :: buR c { Q.W with w := w2 } ⟨⟨x.st.n - 1, x.st.M⟩, x.hd, mShrink x.m 1⟩ :: []) := by
    have e := wzF_W (c := c) (Q := { Q with Y := Y' }) (W' := { Q.W with w := w2 }) (O := x.m.o) (P := x.m.n - 2 ^ x.m.o) (n := (V.filter (·.1 ≠ x.m.n - 2 ^ x.m.o)).length) rfl rfl rfl
    have e : wzF c { Q with Y := Y', W := { Q.W with w := w2 } } x.m.o (x.m.n - 2 ^ x.m.o) (V.filter (·.1 ≠ x.m.n - 2 ^ x.m.o)).length = wzF c { Q with Y := Y' } x.m.o (x.m.n - 2 ^ x.m.o) (V.filter (·.1 ≠ x.m.n - 2 ^ x.m.o)).length := e
    rw [e]
    exact I6
  exact hK h6 { Q with Y := Y', W := { Q.W with w := w2 } } ⟨⟨x.st.n - 1, x.st.M⟩, x.hd, mShrink x.m 1⟩ rfl W5 go (wz_join' (Q := { Q with Y := Y', W := { Q.W with w := w2 } }) (x := ⟨⟨x.st.n - 1, x.st.M⟩, x.hd, mShrink x.m 1⟩) I7 go gn rfl).stp
end
end Go.Proofs.YtnlcmfdmbgnpfaaGreat
