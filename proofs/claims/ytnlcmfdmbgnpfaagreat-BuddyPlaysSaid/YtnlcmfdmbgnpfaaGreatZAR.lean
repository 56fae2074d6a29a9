/- croftlaw5: BuddyPlays. No condition. -/
import Derived.Test.YtnlcmfdmbgnpfaaGreatZAQ
set_option linter.unusedSimpArgs false
set_option linter.unusedVariables false
namespace Go.Proofs.YtnlcmfdmbgnpfaaGreat
open Go.V Classical

def sp5Ty : Nat → TypeDesc
  | 4 => .int .u64
  | _ => .int .i64

def SRow5 (h : Heap) (p : Option Addr) (n c : Nat) : Prop :=
  n ≤ c ∧ c < 9223372036854775808 ∧ (n = 0 ∨ ∃ b o, p = some ⟨b, o, none⟩ ∧ ∀ i, i < n → ∀ j, j < 5 → ∃ v, cellAt h ⟨b, o + i * 5 + j, none⟩ = some v ∧ Scal (sp5Ty j) v)

theorem sp5Row {H : Type} {enc : TypeId × Value → H} {W : World} {t e : TypeId} {fs : Array Field} {p : Option Addr} {n c : Nat} {d : DataW H} {ps : List MemPlace} (ht : Tryz.prog.underlying t = some (.slice e)) (he : Tryz.prog.underlying e = some (.struct fs)) (hm : fs.size = 5) (hce : Tryz.prog.cellsOf e = 5)
    (hf : ∀ j, j < 5 → ∃ f, fs[j]? = some f ∧ f.offset = j ∧ Tryz.prog.cellsOf f.type = 1 ∧ Tryz.prog.underlying f.type = some (sp5Ty j))
    (h : DataW.Trod enc Tryz.prog W 0 (fun _ => true) true t (.slice p n c) d ps) : SRow5 W.heap p n c := structRow ht he hm (by decide) hce hf h

section
variable {w₀ : World} {h h' : Heap} {K : Value → Heap → Prop} {o0 o1 o2 o3 a4 : Int}

theorem wrap_U64 (z : Int) : U64 (IntKind.wrap .u64 z) := by unfold U64; rw [IntKind.wrap_u64]; omega

theorem address5_ok {xs : List Int} {p : Option Addr} {cp : Nat} (h4 : U64 a4) (hl : xs.length ≤ 1000000) (R : Row h p xs.length (uL xs)) (hK : ∀ h' v, Upd NoB h h' → U64 v → K (.int .u64 v) h') :
    CallV Tryz.prog w₀ F.croftlaw5_address [.agg #[.int .i64 o0, .int .i64 o1, .int .i64 o2, .int .i64 o3, .int .u64 a4], .slice p xs.length cp] h K := by
  refine croftlaw5_address.call ?_
  unfold croftlaw5_address.vc
  have N1 := st5_new h o0 o1 o2 o3 a4
  have R1 : Row (Array.push h (.cells #[.int .i64 o0, .int .i64 o1, .int .i64 o2, .int .i64 o3, .int .u64 a4] T.T_croftlaw5_Step)) p xs.length (uL xs) := by
    rcases R with e | ⟨b, o, e, R⟩
    · exact .inl e
    · exact .inr ⟨b, o, e, fun i hi => cellAt_upd (R i hi) N1.u id⟩
  generalize Array.push h (.cells #[.int .i64 o0, .int .i64 o1, .int .i64 o2, .int .i64 o3, .int .u64 a4] T.T_croftlaw5_Step) = h1 at N1 R1 ⊢
  have B := N1.p
  refine ⟨_, st5_cell B (i := 3) (by omega), fun J2 hJ2 => ?_⟩
  have no : J2 false h1 := hJ2 _ _ (iF rfl ⟨_, st5_cell B (i := 4) (by omega), hK h1 a4 N1.u h4⟩)
  by_cases g1 : o3 > 0
  · refine qT (decide_eq_true g1) ⟨_, st5_cell B (i := 3) (by omega), ?_⟩
    by_cases g2 : o3 ≤ (xs.length : Int)
    · have ew : IntKind.wrap .i64 (o3 - 1) = ((o3.toNat - 1 : Nat) : Int) := by rw [IntKind.wrap_i64]; omega
      rcases R1 with e | ⟨b, o, rfl, R1⟩
      · omega
      refine hJ2 _ _ (iT (decide_eq_true g2) ⟨_, st5_cell B (i := 3) (by omega), _, rfl, by rw [ew]; omega, by rw [ew]; omega, _, by rw [ew, add_mk, Int.toNat_natCast, Nat.mul_one]; exact R1 _ (by omega), _, st5_cell B (i := 4) (by omega), hK h1 _ N1.u (wrap_U64 _)⟩)
    · rw [decide_eq_false g2]; exact no
  · exact qF' (decide_eq_false g1) no

theorem st5_set {b : Nat} {f : Nat → Value} (B : Blk h b 5 f) : WrN h ⟨b, 0, none⟩ 5 ∧ Stp h (setCs h ⟨b, 0, none⟩ 0 [.int .i64 o0, .int .i64 o1, .int .i64 o2, .int .i64 o3, .int .u64 a4]) (blkR b 5 f) (blkR b 5 (st5 o0 o1 o2 o3 a4)) := by
  refine ⟨fun j hj => by rw [add_mk]; exact B.wr (by omega), Stp.sets B [.int .i64 o0, .int .i64 o1, .int .i64 o2, .int .i64 o3, .int .u64 a4] 0 0 fun j hj => ?_⟩
  rw [if_pos ⟨by omega, by simpa using hj⟩]
  have : j = 0 ∨ j = 1 ∨ j = 2 ∨ j = 3 ∨ j = 4 := by omega
  rcases this with rfl | rfl | rfl | rfl | rfl <;> rfl
end

theorem BuddyPlays_law {w : World} {a b d : Int} {p : Option Addr} {n cp : Nat} (ha : (Lit.int .u64 a).wf = true) (hb : (Lit.int .i64 b).wf = true) (hd : (Lit.int .i64 d).wf = true) (hs : SRow5 w.heap p n cp) :
    CallV Tryz.prog w F.croftlaw5_BuddyPlays [.agg #[.int .u64 a, .int .i64 b, .int .i64 d], .slice p n cp] w.heap fun v h' => v = .bool true ∧ Upd NoB w.heap h' := by
  obtain ⟨hn, hc, hr⟩ := hs
  have hfin : ∀ h', Upd NoB w.heap h' → (fun (r : Value) (h' : Heap) => r = Value.bool true ∧ Upd NoB w.heap h') (.bool true) h' := fun h' u => ⟨rfl, u⟩
  generalize (fun (r : Value) (h' : Heap) => r = Value.bool true ∧ Upd NoB w.heap h') = K at hfin ⊢
  refine croftlaw5_BuddyPlays.call ?_
  unfold croftlaw5_BuddyPlays.vc
  have N0 := box3 w.heap (.int .u64 a) (.int .i64 b) (.int .i64 d) T.T_api_Config
  generalize Array.push w.heap (.cells #[.int .u64 a, .int .i64 b, .int .i64 d] T.T_api_Config) = h0 at N0 ⊢
  have I0 : Go.V.Own w.heap h0 noR [blkR w.heap.size 3 (f3 (.int .u64 a) (.int .i64 b) (.int .i64 d))] := (Go.V.Own.of (E := noR) trivial).drop.new N0
  obtain ⟨k0, k1, k2⟩ := f3_cells (I0.at 0)
  refine ⟨_, k0, _, k1, _, k2, beginZ_ok (wf_u64 ha) fun h1 Q0 N1 => ⟨_, rfl, fun J3 hJ3 => pF rfl ?_⟩⟩
  have g5 := usual_good a b d
  generalize usualC a b d = c at N1 g5
  have W0 := wi0 g5
  generalize BU0 c = x0 at N1 W0
  have I1 := I0.new N1
  refine lives_ok fun h2 u2 => ⟨_, rfl, hJ3 _ _ (iF rfl fun J4 hJ4 L6 hL6 => ?_)⟩
  have I2 := (ow_swap (I1.quiet u2)).drop
  generalize hwb : Q0.wb = wb
  have loop : ∀ (k i : Nat) (hx : Heap) (Q : WZ) (x : BU) (fl : Nat → List Nat) (V : List PBk) (xs : List Int) (tp : Option Addr) (tc : Nat), i + k = n → Q.wb = wb → WI c x fl V → xs.length ≤ i → i ≤ 400 →
      Go.V.Own w.heap hx noR [slR tp xs.length tc 1 (uL xs), wzR c Q x fl V] → L6 [.slice p n cp, .pointer (some ⟨wb, 0, none⟩), .slice tp xs.length tc, .int .i64 (i : Int)] hx := by
    intro k
    induction k with
    | zero =>
      intro i hx Q x fl V xs tp tc hi hq W hl h4 I
      refine hL6 _ _ _ _ _ _ _ _ _ fun J7 hJ7 => qF' (decide_eq_false (by omega)) (hJ7 _ _ (iF rfl (hJ4 _ _ ?_)))
      rw [← hq]
      exact looksZ_ok W (I.at 1) fun h' S => ⟨_, rfl, hfin _ (I.step 1 S).u⟩
    | succ k ih =>
      intro i hx Q x fl V xs tp tc hi hq W hl h4 I
      refine hL6 _ _ _ _ _ _ _ _ _ fun J7 hJ7 => qT (decide_eq_true (by omega)) (hJ7 _ _ ?_)
      by_cases h400 : (i : Int) < 400
      case neg =>
        refine iF (decide_eq_false h400) (hJ4 _ _ ?_)
        rw [← hq]
        exact looksZ_ok W (I.at 1) fun h' S => ⟨_, rfl, hfin _ (I.step 1 S).u⟩
      refine iT (decide_eq_true h400) fun J8 hJ8 => ?_
      have ewi : IntKind.wrap .i64 ((i : Int) + 1) = ((i + 1 : Nat) : Int) := by rw [IntKind.wrap_i64]; omega
      have next : ∀ (hy : Heap) (Q' : WZ) (x' : BU) (fl' : Nat → List Nat) (V' : List PBk) (xs' : List Int) (tp' : Option Addr) (tc' : Nat), Q'.wb = wb → WI c x' fl' V' → xs'.length ≤ i + 1 →
          Go.V.Own w.heap hy noR [slR tp' xs'.length tc' 1 (uL xs'), wzR c Q' x' fl' V'] → J8 [.slice p n cp, .pointer (some ⟨wb, 0, none⟩), .slice tp' xs'.length tc', .int .i64 (i : Int)] hy := fun hy Q' x' fl' V' xs' tp' tc' hq' W' hl' I' => by
        refine hJ8 _ _ _ _ _ _ _ _ _ ?_
        rw [ewi]
        exact ih (i + 1) hy Q' x' fl' V' xs' tp' tc' (by omega) hq' W' hl' (by omega) I'
      rcases hr with hr | ⟨b0, off, rfl, hr⟩
      · omega
      obtain ⟨v0, c0, z0, rfl, w0⟩ := hr i (by omega) 0 (by omega)
      obtain ⟨v1, c1, z1, rfl, w1⟩ := hr i (by omega) 1 (by omega)
      obtain ⟨v2, c2, z2, rfl, w2⟩ := hr i (by omega) 2 (by omega)
      obtain ⟨v3, c3, z3, rfl, w3⟩ := hr i (by omega) 3 (by omega)
      obtain ⟨v4, c4, z4, rfl, w4⟩ := hr i (by omega) 4 (by omega)
      have up : ∀ {j : Nat} {v : Value}, cellAt w.heap ⟨b0, off + i * 5 + j, none⟩ = some v → cellAt hx ⟨b0, off + i * 5 + j, none⟩ = some v := fun h => cellAt_upd h I.u id
      have ea : (⟨b0, off, none⟩ : Addr).add (Int.toNat ((i : Nat) : Int) * 5) = ⟨b0, off + i * 5, none⟩ := by simp only [add_mk, Int.toNat_natCast]
      refine ⟨_, rfl, by omega, by omega, ?_⟩
      rw [ea]
      refine ⟨_, up c0, _, by rw [add_mk]; exact up c1, _, by rw [add_mk]; exact up c2, _, by rw [add_mk]; exact up c3, _, by rw [add_mk]; exact up c4, ?_⟩
      have N1 := st5_new hx 0 0 0 0 0
      generalize Array.push hx (.cells #[.int .i64 0, .int .i64 0, .int .i64 0, .int .i64 0, .int .u64 0] T.T_croftlaw5_Step) = h7 at N1 ⊢
      obtain ⟨b5, eb5⟩ : ∃ b5, b5 = Array.size hx := ⟨_, rfl⟩
      rw [← eb5] at N1 ⊢
      have I7 := I.new N1
      obtain ⟨w8, S8⟩ := st5_set (o0 := z0) (o1 := z1) (o2 := z2) (o3 := z3) (a4 := z4) (I7.at 0)
      have I8 := I7.step 0 S8
      refine ⟨w8, ?_⟩
      generalize setCs h7 ⟨b5, 0, none⟩ 0 [.int .i64 z0, .int .i64 z1, .int .i64 z2, .int .i64 z3, .int .u64 z4] = h8 at I8 ⊢
      have I8 : Go.V.Own w.heap h8 noR [blkR b5 5 (st5 z0 z1 z2 z3 z4), slR tp xs.length tc 1 (uL xs), wzR c Q x fl V] := I8
      have B8 := I8.at 0
      have u4 : U64 z4 := wf_u64 w4
      refine ⟨_, st5_c0 B8, _, st5_cell B8 (i := 1) (by omega), _, st5_cell B8 (i := 2) (by omega), _, st5_cell B8 (i := 3) (by omega), _, st5_cell B8 (i := 4) (by omega), ?_⟩
      refine address5_ok u4 (by omega) (sl_uL (I8.at 1)) fun h9 pa u9 hpa => ⟨_, rfl, ?_⟩
      have I9 := I8.quiet u9
      refine ⟨_, st5_c0 (I9.at 0), ?_⟩
      by_cases e4 : z0 = 4
      · refine iT (by simp [e4]) fun J12 hJ12 => ?_
        -- the pieces of the world ahead
        have D9 : Go.V.Own w.heap h9 noR (blkR Q.wb 10 (wzF c Q x.m.o x.m.n V.length) :: rfR Q.Y x.m.o fl V :: buR c Q.W x :: blkR b5 5 (st5 z0 z1 z2 z3 z4) :: slR tp xs.length tc 1 (uL xs) :: []) := wz_split (ow_front3 I9)
        have after : ∀ (bx : Nat) (hy : Heap) (Y' : RW5) (fl' : Nat → List Nat) (V' : List PBk) (pg : Nat) (e : Int), TakeD x.m.o fl V z1 fl' V' pg e →
            Go.V.Own w.heap hy noR (blkR bx 4 (f4 (.int .i64 (x.m.o : Int)) (.int .i64 (x.m.n : Int)) (.slice Y'.fp (x.m.o + 1) Y'.fc) (.slice Y'.vp V'.length Y'.vc)) :: blkR Q.wb 10 (wzF c Q x.m.o x.m.n V.length) :: rfR Y' x.m.o fl' V' :: buR c Q.W x :: blkR b5 5 (st5 z0 z1 z2 z3 z4) :: slR tp xs.length tc 1 (uL xs) :: []) →
            J12 [.slice (some ⟨b0, off, none⟩) n cp, .pointer (some ⟨wb, 0, none⟩), .slice tp xs.length tc, .int .i64 (i : Int), .pointer (some ⟨b5, 0, none⟩), .pointer (some ⟨bx, 0, none⟩), .int .i64 (pg : Int), .int .i64 e] hy := by
          intro bx hy Y' fl' V' pg e G D
          rw [← hq]
          refine hJ12 _ _ _ _ _ _ _ _ _ _ _ _ _ ⟨_, rfl, _, wzb_cell (D.at 1) (i := 5) (by omega), _, st5_cell (D.at 4) (i := 1) (by omega), ?_⟩
          refine realTake W (D.at 3) G fun x' h10 q W' eo en hq0 hqn S => ⟨_, _, rfl, ?_⟩
          have D2 := D.step 3 S
          obtain ⟨k0, k1, k2, k3⟩ := f4_cells (D2.at 0)
          obtain ⟨w5, S5⟩ := wz_put (D2.at 1) Y' x.m.n V'.length
          have D3 := (D2.step 1 S5).drop
          refine ⟨_, k0, _, k1, _, _, _, k2, _, _, _, k3, _, rfl, w5, ?_⟩
          generalize setCs h10 ((⟨Q.wb, 0, none⟩ : Addr).add 6) 0 [.int .i64 (x.m.o : Int), .int .i64 (x.m.n : Int), .slice Y'.fp (x.m.o + 1) Y'.fc, .slice Y'.vp V'.length Y'.vc] = h11 at D3 ⊢
          have E3 : Go.V.Own w.heap h11 noR (wzR c { Q with Y := Y' } x' fl' V' :: blkR b5 5 (st5 z0 z1 z2 z3 z4) :: slR tp xs.length tc 1 (uL xs) :: []) := wz_join' (Q := { Q with Y := Y' }) D3 eo en rfl
          have F3 := (ow_swap E3).drop
          refine fun J15 hJ15 => pF (by simp) fun J20 hJ20 => ?_
          have ok15 : J15 false h11 := by
            refine hJ15 _ _ fun J16 hJ16 => pF rfl fun J19 hJ19 => ?_
            have ok16 : J16 false h11 := by
              refine hJ16 _ _ (iF rfl ?_)
              by_cases ee : e = 0
              · obtain ⟨eq, hpg⟩ := hq0 ee
                refine iT (by simp [ee]) ?_
                obtain ⟨os, q1, q2⟩ := sl_app1 (zs := [.int .u64 0]) (v := .int .u64 q) (b := 8) (e := T.T_uint64) (T := T.T_uint64) (F3.at 1) rfl rfl (by omega)
                refine ⟨os, _, q1, fun p' c' h12 res => ?_⟩
                have el : (xs ++ [q]).length = xs.length + 1 := by simp
                have F4 := F3.step 1 (R := slR tp xs.length tc 1 (uL xs)) (R' := slR p' (xs ++ [q]).length c' 1 (uL (xs ++ [q]))) ((q2 p' c' h12 res).conv (fun P => by rw [el]; exact sl_congr P fun j hj => uL_snoc xs _ j (by omega)) fun _ e => e)
                have := next h12 { Q with Y := Y' } x' fl' V' (xs ++ [q]) p' c' hq W' (by omega) (ow_swap F4)
                rw [el] at this
                rw [hq]
                exact this
              · refine iF (by simpa using ee) ?_
                rw [hq]
                exact next h11 { Q with Y := Y' } x' fl' V' xs tp tc hq W' (by omega) (ow_swap F3)
            by_cases ee : e = 0
            · exact qF' (by simp [ee]) (hJ19 _ _ ok16)
            · exact qT (by simpa using ee) (hJ19 _ _ (by rw [hqn ee]; exact ok16))
          by_cases ee : e = 0
          · obtain ⟨eq, hpg⟩ := hq0 ee
            have n1 := W.ok.m.n1
            exact qT (by simp [ee]) (atZ_ok (Q := { Q with Y := Y' }) (x := x') W'.g (by omega) (wz_c0 (E3.at 0)) W'.ok.m ⟨_, rfl, hJ20 _ _ (by rw [eq]; simpa using ok15)⟩)
          · exact qF' (by simpa using ee) (hJ20 _ _ ok15)
        refine ⟨_, rfl, ?_⟩
        rw [← hq]
        refine ⟨_, wzb_cell (D9.at 0) (i := 6) (by omega), _, wzb_cell (D9.at 0) (i := 7) (by omega), _, _, _, wzb_cell (D9.at 0) (i := 8) (by omega), _, _, _, wzb_cell (D9.at 0) (i := 9) (by omega), _, st5_cell (D9.at 3) (i := 1) (by omega), ?_, ?_⟩
        · refine refTake W (D9.at 1) fun h10 Y' fl' V' pg e G S => ⟨_, _, _, _, _, _, _, _, _, _, rfl, ?_⟩
          have D10 := D9.step 1 S
          have N3 := box4 h10 (.int .i64 0) (.int .i64 0) (.slice none 0 0) (.slice none 0 0) T.T_croftref5_Buddy
          generalize Array.push h10 (.cells #[.int .i64 0, .int .i64 0, .slice none 0 0, .slice none 0 0] T.T_croftref5_Buddy) = h11 at N3 ⊢
          have D11 := D10.new N3
          obtain ⟨w4, S4⟩ := assign4 (D11.at 0) (.int .i64 (x.m.o : Int)) (.int .i64 (x.m.n : Int)) (.slice Y'.fp (x.m.o + 1) Y'.fc) (.slice Y'.vp V'.length Y'.vc)
          have D12 := D11.step 0 S4
          have fin := after _ _ Y' fl' V' pg e G D12
          rw [← hq] at fin
          exact ⟨st5_cell (D11.at 4) (i := 1) (by omega), wzb_cell (D11.at 1) (i := 6) (by omega), wzb_cell (D11.at 1) (i := 7) (by omega), wzb_cell (D11.at 1) (i := 8) (by omega), wzb_cell (D11.at 1) (i := 9) (by omega), w4, fin⟩
        · have N3 := box4 h9 (.int .i64 0) (.int .i64 0) (.slice none 0 0) (.slice none 0 0) T.T_croftref5_Buddy
          generalize Array.push h9 (.cells #[.int .i64 0, .int .i64 0, .slice none 0 0, .slice none 0 0] T.T_croftref5_Buddy) = h11 at N3 ⊢
          have D11 := D9.new N3
          refine ⟨st5_cell (D11.at 4) (i := 1) (by omega), wzb_cell (D11.at 1) (i := 6) (by omega), wzb_cell (D11.at 1) (i := 7) (by omega), wzb_cell (D11.at 1) (i := 8) (by omega), wzb_cell (D11.at 1) (i := 9) (by omega), ?_⟩
          refine refTake W (D11.at 2) fun h10 Y' fl' V' pg e G S => ⟨_, _, _, _, _, _, _, _, _, _, rfl, ?_⟩
          have D12 := D11.step 2 S
          obtain ⟨w4, S4⟩ := assign4 (D12.at 0) (.int .i64 (x.m.o : Int)) (.int .i64 (x.m.n : Int)) (.slice Y'.fp (x.m.o + 1) Y'.fc) (.slice Y'.vp V'.length Y'.vc)
          have fin := after _ _ Y' fl' V' pg e G (D12.step 0 S4)
          rw [← hq] at fin
          exact ⟨w4, fin⟩
      · refine iF (by simpa using e4) ⟨_, st5_c0 (I9.at 0), _, st5_cell (I9.at 0) (i := 1) (by omega), _, st5_cell (I9.at 0) (i := 2) (by omega), _, st5_cell (I9.at 0) (i := 3) (by omega), _, st5_cell (I9.at 0) (i := 4) (by omega), ?_⟩
        rw [← hq]
        refine stepZ_ok hpa W (I9.at 2) fun h10 Q' x' fl' V' eq W' S => ⟨_, rfl, iF rfl ?_⟩
        have I10 := (I9.step 2 S).drop
        rw [hq]
        exact next h10 Q' x' fl' V' xs tp tc (eq.trans hq) W' (by omega) I10
  exact loop n 0 h2 Q0 x0 _ _ [] none 0 (by omega) hwb W0 (Nat.zero_le _) (by omega) (I2.new ⟨Upd.refl _ _, sl_nil _ _ _, fun b e => absurd e (sl_nil_fp b)⟩)
end Go.Proofs.YtnlcmfdmbgnpfaaGreat
