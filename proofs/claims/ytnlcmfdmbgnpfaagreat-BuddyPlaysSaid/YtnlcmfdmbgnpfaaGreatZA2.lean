/- croftref5: lives, dies, cut, Take. No condition. -/
import Derived.Test.YtnlcmfdmbgnpfaaGreatZA1
set_option linter.unusedSimpArgs false
set_option linter.unusedVariables false
namespace Go.Proofs.YtnlcmfdmbgnpfaaGreat
open Go.V Classical

structure FlOk (O : Nat) (fl : Nat → List Nat) : Prop where
  len : ∀ k, k ≤ O → (fl k).length ≤ 2000
  nd : ∀ k, k ≤ O → (fl k).Nodup
  bd : ∀ k, k ≤ O → ∀ p ∈ fl k, p ≤ 2000

theorem filter_head {p : Nat} {l : List Nat} (h : (p :: l).Nodup) : (p :: l).filter (· ≠ p) = l := by
  have h1 := (List.nodup_cons.1 h).1
  rw [List.filter_cons, if_neg (by simp)]
  exact List.filter_eq_self.2 fun a ha => by
    have : a ≠ p := fun e => h1 (by rw [← e]; exact ha)
    simpa using this

theorem prL_snoc (L : List PBk) (b : PBk) : prL (L ++ [b]) = prL L ++ [prV b] := by simp
theorem prL_filter (L : List PBk) (p : Nat) : (prL L).filter (·.1 ≠ (p : Int)) = prL (L.filter (·.1 ≠ p)) := by
  unfold prL
  rw [List.filter_map]
  congr 1
  refine List.filter_congr fun b _ => ?_
  show decide ((b.1 : Int) ≠ (p : Int)) = decide (b.1 ≠ p)
  exact decide_eq_decide.2 (by omega)

theorem mem_prL {L : List PBk} {p q : Nat} : (((p : Int), (q : Int)) ∈ prL L) ↔ (p, q) ∈ L := by
  unfold prL
  rw [List.mem_map]
  constructor
  · rintro ⟨b, hb, e⟩
    have e1 : (b.1 : Int) = p := congrArg Prod.fst e
    have e2 : (b.2 : Int) = q := congrArg Prod.snd e
    have : b = (p, q) := by cases b; simp at e1 e2 ⊢; omega
    rw [← this]; exact hb
  · exact fun h => ⟨_, h, rfl⟩

theorem shlI {k : Nat} (hk : k ≤ 8) : IntKind.wrap .i64 ((1 : Int) * 2 ^ min (Int.toNat (IntKind.wrap .u64 (k : Int))) (IntKind.bits .i64)) = ((2 ^ k : Nat) : Int) := by
  have : k = 0 ∨ k = 1 ∨ k = 2 ∨ k = 3 ∨ k = 4 ∨ k = 5 ∨ k = 6 ∨ k = 7 ∨ k = 8 := by omega
  rcases this with rfl | rfl | rfl | rfl | rfl | rfl | rfl | rfl | rfl <;> rfl

section
variable {w₀ : World} {h h0 hx : Heap} {K : Value → Heap → Prop} {Y : RW5} {O P : Nat} {fl : Nat → List Nat} {L : List PBk}

theorem lives5_ok {o P : Int} {fp vp : Option Addr} {fn fc vc p q : Nat} (hl : L.length ≤ 1000000) (H : (slR vp L.length vc 2 (runV (prL L))).P h)
    (hK : ∀ h' vp' vc', New h h' (slR vp' (L ++ [(p, q)]).length vc' 2 (runV (prL (L ++ [(p, q)])))) → K (dv o P fp fn fc vp' (L ++ [(p, q)]).length vc') h') :
    CallV Tryz.prog w₀ F.croftref5_lives [dv o P fp fn fc vp L.length vc, .int .i64 (p : Int), .int .i64 (q : Int)] h K := by
  have key := ref5_lives_ok (w₀ := w₀) (o := o) (P := P) (fp := fp) (fn := fn) (fc := fc) (vc := vc) (K := K) (l := prL L) (p := (p : Int)) (q := (q : Int)) (by rw [prL_len]; omega) (by rw [prL_len]; exact sl_row H) fun h' vp' vc' N => by
    have el : (L ++ [(p, q)]).length = L.length + 1 := by simp
    have := hK h' vp' vc' (by rw [el, prL_snoc]; rw [prL_len] at N; exact N)
    rw [el] at this
    rw [prL_len]
    exact this
  rw [prL_len] at key
  exact key

theorem dies5_ok {o P : Int} {fp vp : Option Addr} {fn fc vc p : Nat} (hl : L.length ≤ 1000000) (H : (slR vp L.length vc 2 (runV (prL L))).P h)
    (hK : ∀ h' vp' vc', New h h' (slR vp' (L.filter (·.1 ≠ p)).length vc' 2 (runV (prL (L.filter (·.1 ≠ p))))) → K (dv o P fp fn fc vp' (L.filter (·.1 ≠ p)).length vc') h') :
    CallV Tryz.prog w₀ F.croftref5_dies [dv o P fp fn fc vp L.length vc, .int .i64 (p : Int)] h K := by
  have key := ref5_dies_ok (w₀ := w₀) (o := o) (P := P) (fp := fp) (fn := fn) (fc := fc) (vc := vc) (K := K) (l := prL L) (p := (p : Int)) (by rw [prL_len]; omega) (by rw [prL_len]; exact sl_row H) fun h' vp' vc' N => by
    have := hK h' vp' vc' (by rw [prL_filter, prL_len] at N; exact N)
    rw [prL_filter, prL_len]
    exact this
  rw [prL_len] at key
  exact key

theorem ref5_cut_ok {p a b : Nat} (hO : O ≤ 8) (ha : a ≤ O) (hb : b ≤ a) (hp : p ≤ 100000) (hl : ∀ j, j ≤ O → (fl j).length ≤ 90000) (hL : L.length ≤ 1000000) (H : (rfR Y O fl L).P h)
    (hK : ∀ h' Y', Stp h h' (rfR Y O fl L) (rfR Y' O (aCut p b fl (a - b)) (L ++ [(p, b)])) → K (pv Y' O P (L ++ [(p, b)])) h') :
    CallV Tryz.prog w₀ F.croftref5_cut [pv Y O P L, .int .i64 (p : Int), .int .i64 (a : Int), .int .i64 (b : Int)] h K := by
  refine croftref5_cut.call ?_
  unfold croftref5_cut.vc
  have N5 := box4 h (.int .i64 (O : Int)) (.int .i64 (P : Int)) (.slice Y.fp (O + 1) Y.fc) (.slice Y.vp L.length Y.vc) T.T_croftref5_Buddy
  generalize Array.push h (.cells #[.int .i64 (O : Int), .int .i64 (P : Int), .slice Y.fp (O + 1) Y.fc, .slice Y.vp L.length Y.vc] T.T_croftref5_Buddy) = h5 at N5 ⊢
  have N6 := box4 h5 (.int .i64 0) (.int .i64 0) (.slice none 0 0) (.slice none 0 0) T.T_croftref5_Buddy
  generalize Array.push h5 (.cells #[.int .i64 0, .int .i64 0, .slice none 0 0, .slice none 0 0] T.T_croftref5_Buddy) = h6 at N6 ⊢
  obtain ⟨b0, eb0⟩ : ∃ b0, b0 = h.size := ⟨_, rfl⟩
  obtain ⟨b1, eb1⟩ : ∃ b1, b1 = h5.size := ⟨_, rfl⟩
  rw [← eb0] at N5 ⊢
  rw [← eb1] at N6 ⊢
  intro J3 hJ3 L6 hL6
  have I0 : Go.V.Own h h6 (rfR Y O fl L) [blkR b1 4 z4, blkR b0 4 (f4 (.int .i64 (O : Int)) (.int .i64 (P : Int)) (.slice Y.fp (O + 1) Y.fc) (.slice Y.vp L.length Y.vc)), frR Y O fl, liR Y L] := ((Go.V.Own.of H).split.new N5).new N6
  have key : ∀ (d : Nat) (Y1 : RW5) (F1 : Nat → List Nat) (hx : Heap), b + d ≤ O → (∀ j, j ≤ O → (F1 j).length + d ≤ 100000) → aCut p b F1 d = aCut p b fl (a - b) →
      Go.V.Own h hx (rfR Y O fl L) [blkR b1 4 z4, blkR b0 4 (f4 (.int .i64 (O : Int)) (.int .i64 (P : Int)) (.slice Y1.fp (O + 1) Y1.fc) (.slice Y.vp L.length Y.vc)), frR Y1 O F1, liR Y L] →
      L6 [.int .i64 (p : Int), .int .i64 (b : Int), .pointer (some ⟨b0, 0, none⟩), .pointer (some ⟨b1, 0, none⟩), .int .i64 (((b + d : Nat) : Int) - 1)] hx := by
    intro d
    induction d with
    | zero =>
      intro Y1 F1 hx hbd hl1 he I
      obtain ⟨k0, k1, k2, k3⟩ := f4_cells (I.at 1)
      refine hL6 _ _ _ _ _ _ (iF (decide_eq_false (by omega)) (hJ3 _ _ _ _ _ ⟨_, k0, _, k1, _, _, _, k2, _, _, _, k3, lives5_ok hL (I.at 3) fun h8 vp' vc' N8 => ⟨_, _, _, _, _, _, _, _, rfl, ?_⟩⟩))
      have I1 := I.new N8
      obtain ⟨w4, S4⟩ := assign4 (I1.at 1) (.int .i64 (O : Int)) (.int .i64 (P : Int)) (.slice Y1.fp (O + 1) Y1.fc) (.slice vp' (L ++ [(p, b)]).length vc')
      have I2 := I1.step 1 S4
      refine ⟨w4, ?_⟩
      generalize setCs h8 ⟨b1, 0, none⟩ 0 [.int .i64 (O : Int), .int .i64 (P : Int), .slice Y1.fp (O + 1) Y1.fc, .slice vp' (L ++ [(p, b)]).length vc'] = h9 at I2 ⊢
      obtain ⟨k0, k1, k2, k3⟩ := f4_cells (I2.at 1)
      refine ⟨_, k0, _, k1, _, _, _, k2, _, _, _, k3, ?_⟩
      have S := I2.two 3 0
      rw [← he] at hK
      exact hK h9 { Y1 with vp := vp', vc := vc' } S
    | succ d ih =>
      intro Y1 F1 hx hbd hl1 he I
      obtain ⟨k0, k1, k2, k3⟩ := f4_cells (I.at 1)
      have ey : ((b + (d + 1) : Nat) : Int) - 1 = ((b + d : Nat) : Int) := by omega
      rw [ey]
      refine hL6 _ _ _ _ _ _ (iT (decide_eq_true (by omega)) ⟨_, k0, _, k1, _, _, _, k2, _, _, _, k3, by rw [IntKind.wrap_u64]; omega, ?_⟩)
      rw [shlI (show b + d ≤ 8 by omega)]
      have h8 := pow8 (show b + d ≤ 8 by omega)
      rw [show IntKind.wrap .i64 ((p : Int) + ((2 ^ (b + d) : Nat) : Int)) = ((p + 2 ^ (b + d) : Nat) : Int) by rw [IntKind.wrap_i64]; omega]
      refine ref5_enter_ok (Y := Y1) (fl := F1) hO (by omega) (by have := hl1 (b + d) (by omega); omega) (I.at 2) fun h8 Y2 ev ec S2 => ⟨_, _, _, _, _, _, _, _, rfl, ?_⟩
      have I1 := I.step 2 S2
      obtain ⟨w4, S4⟩ := assign4 (I1.at 1) (.int .i64 (O : Int)) (.int .i64 (P : Int)) (.slice Y2.fp (O + 1) Y2.fc) (.slice Y.vp L.length Y.vc)
      have I2 := I1.step 1 S4
      refine ⟨w4, ?_⟩
      rw [show IntKind.wrap .i64 (((b + d : Nat) : Int) - 1) = ((b + d : Nat) : Int) - 1 by rw [IntKind.wrap_i64]; omega]
      refine ih Y2 _ _ (by omega) (fun j hj => ?_) he I2
      by_cases ej : j = b + d
      · rw [ej, fset_same, List.length_cons]
        have := hl1 (b + d) (by omega)
        omega
      · rw [fset_ne _ _ ej]
        have := hl1 j hj
        omega
  have := key (a - b) Y fl h6 (by omega) (fun j hj => by have := hl j hj; omega) rfl I0
  rw [show IntKind.wrap .i64 ((a : Int) - 1) = ((b + (a - b) : Nat) : Int) - 1 by rw [IntKind.wrap_i64]; omega]
  exact this

theorem ref5_Take_ok {z : Int} (hO : O ≤ 8) (f : FlOk O fl) (hL : L.length ≤ 1000000) (H : (rfR Y O fl L).P h)
    (hb : (z < 0 ∨ z > O) → ∀ h', Upd NoB h h' → K (.tuple #[pv Y O P L, .int .i64 0, .int .i64 1]) h')
    (h0 : ∀ on : Nat, z = on → on ≤ O → (∀ j, on ≤ j → j ≤ O → fl j = []) → ∀ h', Upd NoB h h' → K (.tuple #[pv Y O P L, .int .i64 0, .int .i64 2]) h')
    (h1 : ∀ on : Nat, z = on → on ≤ O → ∀ j p l, on ≤ j → j ≤ O → fl j = p :: l → (∀ i, on ≤ i → i < j → fl i = []) → ∀ h' Y', Stp h h' (rfR Y O fl L) (rfR Y' O (aCut p on (fset fl j l) (j - on)) (L ++ [(p, on)])) → K (.tuple #[pv Y' O P (L ++ [(p, on)]), .int .i64 (p : Int), .int .i64 0]) h') :
    CallV Tryz.prog w₀ F.croftref5_Take [pv Y O P L, .int .i64 z] h K := by
  refine croftref5_Take.call ?_
  unfold croftref5_Take.vc
  have N5 := box4 h (.int .i64 (O : Int)) (.int .i64 (P : Int)) (.slice Y.fp (O + 1) Y.fc) (.slice Y.vp L.length Y.vc) T.T_croftref5_Buddy
  generalize Array.push h (.cells #[.int .i64 (O : Int), .int .i64 (P : Int), .slice Y.fp (O + 1) Y.fc, .slice Y.vp L.length Y.vc] T.T_croftref5_Buddy) = h5 at N5 ⊢
  have N6 := box4 h5 (.int .i64 0) (.int .i64 0) (.slice none 0 0) (.slice none 0 0) T.T_croftref5_Buddy
  generalize Array.push h5 (.cells #[.int .i64 0, .int .i64 0, .slice none 0 0, .slice none 0 0] T.T_croftref5_Buddy) = h6 at N6 ⊢
  obtain ⟨b0, eb0⟩ : ∃ b0, b0 = h.size := ⟨_, rfl⟩
  obtain ⟨b1, eb1⟩ : ∃ b1, b1 = h5.size := ⟨_, rfl⟩
  rw [← eb0] at N5 ⊢
  rw [← eb1] at N6 ⊢
  have I0 : Go.V.Own h h6 (rfR Y O fl L) [blkR b1 4 z4, blkR b0 4 (f4 (.int .i64 (O : Int)) (.int .i64 (P : Int)) (.slice Y.fp (O + 1) Y.fc) (.slice Y.vp L.length Y.vc)), frR Y O fl, liR Y L] := ((Go.V.Own.of H).split.new N5).new N6
  have u6 : Upd NoB h h6 := N5.u.nx N6.u fun _ e _ => e
  obtain ⟨k0, k1, k2, k3⟩ := f4_cells (I0.at 1)
  -- an answer that changes nothing
  have quiet : Upd NoB h (setCs h6 ⟨b1, 0, none⟩ 0 [.int .i64 (O : Int), .int .i64 (P : Int), .slice Y.fp (O + 1) Y.fc, .slice Y.vp L.length Y.vc]) ∧ WrN h6 ⟨b1, 0, none⟩ 4 ∧ (blkR b1 4 (f4 (.int .i64 (O : Int)) (.int .i64 (P : Int)) (.slice Y.fp (O + 1) Y.fc) (.slice Y.vp L.length Y.vc))).P (setCs h6 ⟨b1, 0, none⟩ 0 [.int .i64 (O : Int), .int .i64 (P : Int), .slice Y.fp (O + 1) Y.fc, .slice Y.vp L.length Y.vc]) := by
    obtain ⟨w4, S4⟩ := assign4 (I0.at 0) (.int .i64 (O : Int)) (.int .i64 (P : Int)) (.slice Y.fp (O + 1) Y.fc) (.slice Y.vp L.length Y.vc)
    exact ⟨u6.nx S4.u fun b e hb => by
      have e : b = b1 := e
      have := N5.u.1
      omega, w4, S4.p⟩
  obtain ⟨uq, wq, Bq⟩ := quiet
  generalize hq9 : setCs h6 ⟨b1, 0, none⟩ 0 [.int .i64 (O : Int), .int .i64 (P : Int), .slice Y.fp (O + 1) Y.fc, .slice Y.vp L.length Y.vc] = h9 at uq Bq ⊢
  obtain ⟨q0, q1, q2, q3⟩ := f4_cells Bq
  intro J3 hJ3
  have refused : (z < 0 ∨ z > O) → J3 true h6 := fun hz => hJ3 _ _ ⟨fun _ => ⟨_, k0, _, k1, _, _, _, k2, _, _, _, k3, wq, by rw [hq9]; exact ⟨_, q0, _, q1, _, _, _, q2, _, _, _, q3, hb hz h9 uq⟩⟩, fun e => by cases e⟩
  by_cases hn : z < 0
  · exact pT (decide_eq_true hn) (refused (.inl hn))
  refine pF (decide_eq_false hn) ⟨_, k0, ?_⟩
  by_cases hz : z > O
  · rw [decide_eq_true hz]; exact refused (.inr hz)
  rw [decide_eq_false hz]
  obtain ⟨on, rfl⟩ : ∃ on : Nat, z = on := ⟨z.toNat, by omega⟩
  have hon : on ≤ O := by omega
  refine hJ3 _ _ (iF rfl fun J5 hJ5 L7 hL7 => ?_)
  have key : ∀ (d i : Nat), on ≤ i → i + d = O + 1 → (∀ m, on ≤ m → m < i → fl m = []) → L7 [.int .i64 (on : Int), .pointer (some ⟨b0, 0, none⟩), .pointer (some ⟨b1, 0, none⟩), .int .i64 (i : Int)] h6 := by
    intro d
    induction d with
    | zero =>
      intro i hoi hi hno
      refine hL7 _ _ _ _ _ ⟨_, k0, iF (decide_eq_false (by omega)) (hJ5 _ _ _ ⟨_, k0, _, k1, _, _, _, k2, _, _, _, k3, wq, by rw [hq9]; exact ⟨_, q0, _, q1, _, _, _, q2, _, _, _, q3, h0 on rfl hon (fun j hj1 hj2 => hno j hj1 (by omega)) h9 uq⟩⟩)⟩
    | succ d ih =>
      intro i hoi hi hno
      have hiO : i ≤ O := by omega
      have HF : (frR Y O fl).P h6 := I0.at 2
      obtain ⟨bf, efp, vi⟩ := fr_cell HF hiO
      refine hL7 _ _ _ _ _ ⟨_, k0, iT (decide_eq_true (by omega)) ⟨_, _, _, k2, _, efp, by omega, by omega, _, _, _, by rw [at1]; exact vi, ?_⟩⟩
      cases hF : fl i with
      | nil =>
        refine iF (by simp) ?_
        rw [show IntKind.wrap .i64 ((i : Int) + 1) = ((i + 1 : Nat) : Int) by rw [IntKind.wrap_i64]; omega]
        refine ih (i + 1) (by omega) (by omega) fun m hm1 hm2 => ?_
        by_cases e : m = i
        · rw [e]; exact hF
        · exact hno m hm1 (by omega)
      | cons p l =>
        have hnd := f.nd i hiO
        rw [hF] at hnd
        have hpb := f.bd i hiO p (by rw [hF]; exact List.mem_cons_self ..)
        have hlen : 0 < (fl i).length := by rw [hF]; simp
        obtain ⟨bl, elp, v0⟩ := sl_cell (fr_row HF hiO) (i := 0) (by omega)
        have e0 : nV (fl i) 0 = .int .i64 (p : Int) := by unfold nV; rw [hF]; rfl
        rw [e0] at v0
        refine iT (decide_eq_true (by simp)) ⟨_, _, _, k2, _, efp, by omega, by omega, _, _, _, by rw [at1]; exact vi, _, elp, by omega, by omega, (p : Int), by rw [show Int.toNat (0 : Int) * 1 = 0 from rfl, add_mk]; exact v0, _, k0, _, k1, _, _, _, k2, _, _, _, k3, ?_⟩
        refine ref5_leave_ok (Y := Y) (fl := fl) hO hiO (by have := f.len i hiO; omega) HF fun h7 Y1 ev ec S1 => ⟨_, _, _, _, _, _, _, _, rfl, ?_⟩
        rw [hF, filter_head hnd] at S1
        have I1 := I0.step 2 S1
        have I1 : Go.V.Own h h7 (rfR Y O fl L) [blkR b1 4 z4, blkR b0 4 (f4 (.int .i64 (O : Int)) (.int .i64 (P : Int)) (.slice Y.fp (O + 1) Y.fc) (.slice Y.vp L.length Y.vc)), frR Y1 O (fset fl i l), liR Y L] := I1
        have I2 : Go.V.Own h h7 (rfR Y O fl L) [rfR Y1 O (fset fl i l) L, blkR b1 4 z4] := by
          have := (I1.perm (rs' := [frR Y1 O (fset fl i l), liR Y L, blkR b1 4 z4, blkR b0 4 (f4 (.int .i64 (O : Int)) (.int .i64 (P : Int)) (.slice Y.fp (O + 1) Y.fc) (.slice Y.vp L.length Y.vc))]) (List.perm_append_comm (l₁ := [_, _]) (l₂ := [_, _]))).join.sub (.cons_cons _ (.cons_cons _ (.cons _ .slnil)))
          unfold rfR liR
          rw [ev, ec]
          exact this
        rw [← ev, ← ec]
        refine ref5_cut_ok (Y := Y1) (fl := fset fl i l) (L := L) hO hiO hoi (by omega) (fun j hj => by
          by_cases ej : j = i
          · rw [ej, fset_same]; have := f.len i hiO; rw [hF] at this; simp at this; omega
          · rw [fset_ne _ _ ej]; have := f.len j hj; omega) hL (I2.at 0) fun h8 Y2 S2 => ⟨_, _, _, _, _, _, _, _, rfl, ?_⟩
        have I3 := I2.step 0 S2
        obtain ⟨w4, S4⟩ := assign4 (I3.at 1) (.int .i64 (O : Int)) (.int .i64 (P : Int)) (.slice Y2.fp (O + 1) Y2.fc) (.slice Y2.vp (L ++ [(p, on)]).length Y2.vc)
        have I4 := I3.step 1 S4
        refine ⟨w4, ?_⟩
        generalize setCs h8 ⟨b1, 0, none⟩ 0 [.int .i64 (O : Int), .int .i64 (P : Int), .slice Y2.fp (O + 1) Y2.fc, .slice Y2.vp (L ++ [(p, on)]).length Y2.vc] = h10 at I4 ⊢
        obtain ⟨t0, t1, t2, t3⟩ := f4_cells (I4.at 1)
        exact ⟨_, t0, _, t1, _, _, _, t2, _, _, _, t3, h1 on rfl hon i p l hoi hiO hF hno h10 Y2 (I4.one 0)⟩
  exact key (O + 1 - on) on (Nat.le_refl _) (by omega) fun m h1 h2 => by omega
end
end Go.Proofs.YtnlcmfdmbgnpfaaGreat
