/- Chapter 4's law PageCells. No condition. -/
import Derived.Test.YtnplkinakaepdaaPF
import Derived.Test.YtnplkinakaepdaaX0
set_option linter.unusedSimpArgs false
set_option linter.unusedVariables false
namespace Go.Proofs.Ytnplkinakaepdaa
open Go.V Classical

theorem boolRow (b : Bool) (T : TypeId) : True := trivial

set_option maxHeartbeats 2000000 in
theorem PageCells_law {w : World} {a0 : Int} {p : Option Addr} {n cp : Nat} (h0 : (Lit.int .i64 a0).wf = true) (hs : SRow w.heap .i64 p n cp) :
    CallV Try.prog w F.croftlaw4_PageCells [.int .i64 a0, .slice p n cp] w.heap fun v h' => v = .bool true ∧ Upd NoB w.heap h' := by
  obtain ⟨fl, hnc, hcp, hrow, hfl⟩ := hs
  refine croftlaw4_PageCells.call ?_
  unfold croftlaw4_PageCells.vc
  refine pg_awake_ok fun h13 u13 => ⟨true, rfl, iF rfl (pm_New_ok fun h15 mb w15 N15 => ⟨_, rfl, ?_⟩)⟩
  have I0 := ((Hold.nil w.heap).quiet u13).new N15
  refine pm_Grow_ok (mNew_ok 0) (I0.at 0) fun h17 w17 S17 => ⟨rfl, ?_⟩
  have I17 := I0.step 0 S17
  have gok : (mGrow (mNew 0)).Ok := mGrow_ok (mNew_ok 0)
  have gn : (mGrow (mNew 0)).n = 1 ∧ (mGrow (mNew 0)).o = 0 := by unfold mGrow mNew clampO; simp
  generalize mGrow (mNew 0) = s at *
  intro J4 k4
  by_cases hc : 0 ≤ a0 ∧ a0 ≤ 7
  case neg =>
    have bad : J4 true h17 := k4 _ _ (iT rfl (pm_Slab_ok (I17.at 0) (fun m hm hmn h1 h2 => absurd ⟨h1, h2⟩ hc) fun hn h' u' => ⟨_, rfl, by simp, (I17.quiet u').u⟩))
    by_cases hc0 : a0 < 0
    · exact pT (by simp; exact hc0) bad
    · refine pF (by simp; omega) ?_
      have : decide (a0 > 7) = true := by simp; omega
      rw [this]; exact bad
  refine pF (by simp; omega) ?_
  have e7 : decide (a0 > 7) = false := by simp; omega
  rw [e7]
  refine k4 _ _ (iF rfl (pm_Slab_ok (I17.at 0) (fun m hm hmn h1 h2 h30 S30 => ⟨_, rfl, iF (by simp) ?_⟩) fun hn => absurd ⟨by omega, by rw [gn.1]; omega, hc⟩ hn))
  have hm0 : m = 0 := by omega
  subst hm0
  have I30 : Hold w.heap h30 [mapR mb (setPg s 0 (slabP a0)) w17] := I17.step 0 S30
  have T0 := slabP_t hc
  have sok0 : (setPg s 0 (slabP a0)).Ok := setPg_ok gok T0
  obtain ⟨c, rfl⟩ : ∃ c : Nat, a0 = c := ⟨a0.toNat, by omega⟩
  have hc7 : c ≤ 7 := by omega
  obtain ⟨N, hN, hN1, hN2⟩ : ∃ N, 256 / 2 ^ c = N ∧ 2 ≤ N ∧ N ≤ 256 := ⟨_, rfl, cells_bd hc7⟩
  have eN : Int.fdiv (256 : Int) (2 ^ min (Int.toNat (c : Int)) (IntKind.bits .i64)) = (N : Int) := by
    rw [show (256 : Int) = ((256 : Nat) : Int) from rfl, shr_i64 (by omega), hN]
  rw [eN]
  refine ⟨by omega, by omega, by omega, by omega, ?_⟩
  rw [Int.toNat_natCast]
  have T1 := sl_make h30 [(.bool false)] T.T_bool N N (Nat.le_refl _)
  intro J8 k8 L9 hL9
  -- what holds between cells
  let Inv : (Nat → Int) → (Nat → Bool) → Nat → Prop := fun P f i => PgT P ∧ P 0 = 4 ∧ P 2 = c ∧ (∀ x, x < N → pbit P x = f x)
  have loop : ∀ (r i : Nat) (hx : Heap) (P : Nat → Int) (f : Nat → Bool), i + r = n → Inv P f i → Hold w.heap hx [slR (some ⟨h30.size, 0, none⟩) N N 1 fun x => .bool (f x), mapR mb (setPg s 0 P) w17] →
      L9 [.int .i64 (c : Int), .slice p n cp, .pointer (some ⟨mb, 0, none⟩), .int .i64 (N : Int), .slice (some ⟨h30.size, 0, none⟩) N N, .int .i64 (P 3), .int .i64 (i : Int)] hx := by
    intro r
    induction r with
    | zero =>
      intro i hx P f hi V I
      have : i = n := by omega
      subst this
      exact hL9 _ _ _ _ _ _ _ _ _ _ _ _ (iF (by simp) (k8 _ ⟨rfl, I.u⟩))
    | succ r ih =>
      intro i hx P f hi V I
      have e1 : IntKind.wrap .i64 ((i : Int) + 1) = ((i + 1 : Nat) : Int) := by rw [IntKind.wrap_i64]; omega
      obtain ⟨vT, v0, v2, vb⟩ := V
      have sok : (setPg s 0 P).Ok := setPg_ok gok vT
      have hn1 : (setPg s 0 P).n = 1 := gn.1
      have hPg : (setPg s 0 P).pg 0 = P := by show putP s.pg 0 P 0 = P; unfold putP; rw [if_pos rfl]
      have hnc' : ncells P = N := by unfold ncells; rw [v2, Int.toNat_natCast, hN]
      obtain ⟨fb, fo, ef, hf0⟩ : ∃ b o', p = some ⟨b, o', none⟩ ∧ cellAt hx ⟨b, o' + i, none⟩ = some (.int .i64 (fl i)) := by
        rcases hrow.upd I.u fun _ _ => id with e | ⟨b, o', e, H⟩
        · omega
        · exact ⟨b, o', e, H i (by omega)⟩
      refine hL9 _ _ _ _ _ _ _ _ _ _ _ _ (iT (by simp; omega) ?_)
      intro J10 k10
      rw [ef]
      simp only [jor, jand, cellAt_new, add_mk, List.getElem?_toArray, Nat.zero_add, List.getElem?_cons_zero, List.getElem?_cons_succ, Option.some.injEq, Value.int.injEq, Value.bool.injEq, Value.pointer.injEq, Value.slice.injEq, true_and, and_true, exists_eq_left', exists_eq', and_assoc, exists_and_left, Int.toNat_natCast, Nat.mul_one, hf0]
      refine ⟨by omega, by omega, ?_⟩
      by_cases hin : 0 ≤ fl i ∧ fl i < N
      case neg =>
        have no : ∀ (live : Bool) (hy : Heap), (mapR mb (setPg s 0 P) w17).P hy → ∀ K : Value → Heap → Prop, (∀ h', Upd NoB hy h' → K (.int .i64 1) h') → CallV Try.prog w F.pagemap_Map_Own [.pointer (some ⟨mb, 0, none⟩), .int .i64 0, .int .i64 (fl i), .bool live] hy K := fun live hy H K hK => by
          refine pm_Own_ok sok.pg H (fun m k hm hmn h4 hk hkn hb h' S => ?_) fun _ h' u => hK h' u
          exfalso; apply hin
          have : m = 0 := by omega
          subst this
          rw [hPg, hnc'] at hkn
          omega
        refine iT (by simp; omega) (no true hx (I.at 1) _ fun h55 u55 => ⟨_, rfl, ?_⟩)
        intro J13 k13
        refine pF (by simp) (no false h55 ((I.quiet u55).at 1) _ fun h60 u60 => ⟨_, rfl, k13 _ _ (iF (by simp) (k10 _ _ _ _ _ _ _ _ _ _ _ _ ?_))⟩)
        rw [e1, ← ef]
        exact ih (i + 1) h60 P f (by omega) ⟨vT, v0, v2, vb⟩ ((I.quiet u55).quiet u60)
      obtain ⟨k, hk⟩ : ∃ k : Nat, fl i = k := ⟨(fl i).toNat, by omega⟩
      have hkN : k < N := by omega
      rw [hk]
      refine iF (by simp; omega) ?_
      have HS := I.at 0 (R := slR (some ⟨h30.size, 0, none⟩) N N 1 fun x => .bool (f x))
      have cell : ∀ {hz : Heap}, (slR (some ⟨h30.size, 0, none⟩) N N 1 fun x => .bool (f x)).P hz → cellAt hz ⟨h30.size, k, none⟩ = some (.bool (f k)) := fun H => by
        obtain ⟨b, eb, hc⟩ := sl_cell H (i := k) (by omega)
        simp at eb; subst eb; exact hc
      have c0 := cell HS
      simp only [jor, jand, cellAt_new, add_mk, List.getElem?_toArray, Nat.zero_add, List.getElem?_cons_zero, List.getElem?_cons_succ, Option.some.injEq, Value.int.injEq, Value.bool.injEq, Value.pointer.injEq, Value.slice.injEq, true_and, and_true, exists_eq_left', exists_eq', and_assoc, exists_and_left, Int.toNat_natCast, Nat.mul_one, c0]
      refine ⟨by omega, by omega, ?_⟩
      refine pm_Own_ok sok.pg (I.at 1) (fun m k' hm hmn h4 hk' hkn hb h' S => ?_) fun _ h69 u69 => ⟨_, rfl, ?_⟩
      · exfalso; apply hb
        have : m = 0 := by omega
        have : k' = k := by omega
        subst_vars
        rw [hPg]; exact vb _ hkN
      have I69 := I.quiet u69
      have c1 := cell (I69.at 0)
      intro J16 k16
      refine pF (by simp) ⟨by omega, by omega, _, c1, ?_⟩
      refine pm_Own_ok sok.pg (I69.at 1) (fun m k' hm hmn h4 hk' hkn hb h79 S79 => ⟨_, rfl, ?_⟩) fun hn => ?_
      case refine_2 =>
        exfalso; apply hn
        have e0 : Int.toNat 0 = 0 := rfl
        rw [e0, hPg, hnc', hn1, Int.toNat_natCast, vb k hkN]
        exact ⟨by omega, by omega, v0, by omega, by omega, by cases f k <;> decide⟩
      have hm0 : m = 0 := by omega
      have hk0 : k' = k := by omega
      subst hm0 hk0
      rw [hPg] at S79
      let P' := pown P k' (!f k')
      have ePg : putP (setPg s 0 P).pg 0 P' = (setPg s 0 P').pg := by
        funext x
        show putP (putP s.pg 0 P) 0 P' x = putP s.pg 0 P' x
        unfold putP; by_cases h : x = 0 <;> simp [h]
      have I79 : Hold w.heap h79 [slR (some ⟨h30.size, 0, none⟩) N N 1 fun x => .bool (f x), mapR mb (setPg s 0 P') w17] := I69.step 1 (R' := mapR mb (setPg s 0 P') w17) (by
        have := S79
        rw [ePg] at this
        exact this)
      have vT' : PgT P' := pown_t (by omega) vT
      obtain ⟨b1, b2⟩ := pown_bit (live := !f k') vT (show k' < 256 by omega)
      refine k16 _ _ (iF (by simp) ?_)
      have H79 := I79.at 0 (R := slR (some ⟨h30.size, 0, none⟩) N N 1 fun x => .bool (f x))
      have c2 := cell H79
      obtain ⟨b3, eb3, hw3, S3⟩ := sl_set H79 (o := k') (by omega) (.bool (!f k'))
      simp at eb3; subst eb3
      have I80 := I79.step 0 S3
      let f' : Nat → Bool := fun x => if x = k' then !f k' else f x
      have I81 := I80.as 0 (R := slR (some ⟨h30.size, 0, none⟩) N N 1 fun i => if i = k' then .bool (!f k') else .bool (f i)) (R' := slR (some ⟨h30.size, 0, none⟩) N N 1 fun x => .bool (f' x)) (fun P => sl_congr P fun x hx => by
        simp only [f']; by_cases h : x = k' <;> simp [h]) fun _ e => e
      refine ⟨by omega, by omega, _, c2, by omega, by omega, hw3, ?_⟩
      intro J18 k18
      have e3' : P' 3 = IntKind.wrap .i64 (if (!f k') then P 3 + 1 else P 3 - 1) := by show pown P k' (!f k') 3 = _; unfold pown; rw [if_pos rfl]
      have sok' : (setPg s 0 P').Ok := setPg_ok gok vT'
      have hPg' : (setPg s 0 P').pg 0 = P' := by show putP s.pg 0 P' 0 = P'; unfold putP; rw [if_pos rfl]
      have pe : ∀ j, j ≠ 3 → j < 7 → P' j = P j := fun j h1 h2 => by show pown P k' (!f k') j = P j; unfold pown; rw [if_neg h1, if_neg (by omega)]
      have last : J18 [.int .i64 (c : Int), .slice (some ⟨fb, fo, none⟩) n cp, .pointer (some ⟨mb, 0, none⟩), .int .i64 (N : Int), .slice (some ⟨h30.size, 0, none⟩) N N, .int .i64 (P' 3), .int .i64 (i : Int)] (setC h79 ⟨h30.size, k', none⟩ (.bool (!f k'))) := by
        refine k18 _ _ _ _ _ _ _ _ _ _ _ _ ?_
        refine pm_At_ok (I81.at 1) (fun m hm hmn h100 u100 => ⟨_, _, _, _, _, _, _, _, _, _, _, _, rfl, ?_⟩) fun hn => absurd ⟨by omega, by show (0 : Int) < ((s.n : Nat) : Int); rw [gn.1]; omega⟩ hn
        have : m = 0 := by omega
        subst this
        rw [hPg']
        obtain ⟨w1, u101, H101, hc101⟩ := box_page (P := P') ((I81.quiet u100).at 1)
        refine ⟨w1, ?_⟩
        have I101 := (I81.quiet u100).quiet u101
        have q0 := hc101 0 (by omega)
        have q2 := hc101 2 (by omega)
        have q3 := hc101 3 (by omega)
        have p0 : pcl 0 (P' 0) = .int .i64 4 := by rw [pe 0 (by omega) (by omega), v0]; rfl
        have p2 : pcl 2 (P' 2) = .int .i64 (c : Int) := by rw [pe 2 (by omega) (by omega), v2]; rfl
        rw [p0] at q0
        rw [p2] at q2
        intro J22 k22
        refine pF rfl ⟨_, by first | exact q3 | (rw [add_mk]; exact q3), ?_⟩
        have e4 : ((P' 3 != P' 3) : Bool) = false := by simp
        rw [e4]
        refine k22 _ _ ?_
        intro J23 k23
        refine pF rfl ⟨_, by first | exact q2 | (rw [add_mk]; exact q2), k23 _ _ ?_⟩
        intro J24 k24
        refine pF (by simp) ⟨_, q0, k24 _ _ (iF (by simp) (k10 _ _ _ _ _ _ _ _ _ _ _ _ ?_))⟩
        rw [e1, ← ef]
        refine ih (i + 1) _ P' f' (by omega) ⟨vT', by rw [pe 0 (by omega) (by omega), v0], by rw [pe 2 (by omega) (by omega), v2], fun x hx => ?_⟩ I101
        simp only [f']
        by_cases h : x = k'
        · subst h; rw [if_pos rfl, b2, vb _ hx]
        · rw [if_neg h, b1 x (by omega) h, vb x hx]
      have H81 := I81.at 0 (R := slR (some ⟨h30.size, 0, none⟩) N N 1 fun x => .bool (f' x))
      obtain ⟨b4, eb4, c4⟩ := sl_cell H81 (i := k') (by omega)
      simp at eb4; subst eb4
      have ef' : f' k' = !f k' := by simp only [f', if_true]
      rw [ef'] at c4
      refine ⟨by omega, by omega, _, c4, ?_⟩
      cases hfk : f k'
      · rw [hfk] at last e3'
        simp at e3'
        rw [e3'] at last
        exact ⟨fun _ => last, fun e => by cases e⟩
      · rw [hfk] at last e3'
        simp at e3'
        rw [e3'] at last
        exact ⟨fun e => (by cases e), fun _ => last⟩
  refine loop n 0 _ (slabP c) (fun _ => false) (by omega) ⟨T0, rfl, rfl, fun x hx => pbit_zero (fun j h7 h11 => ?_) (by omega)⟩ ((I30.new T1).as 0 (R := slR (some ⟨h30.size, 0, none⟩) N N 1 fun i => [(.bool false)].getD (i % 1) undef) (fun P => sl_congr P fun i hi => by simp [Nat.mod_one]) fun _ e => e)
  have : j = 7 ∨ j = 8 ∨ j = 9 ∨ j = 10 := by omega
  rcases this with rfl | rfl | rfl | rfl <;> rfl

end Go.Proofs.Ytnplkinakaepdaa
