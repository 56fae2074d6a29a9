/- croftref6: New, Take, enter. No condition. -/
import Derived.Test.YtippbfnhgooepaaZD0
set_option linter.unusedSimpArgs false
set_option linter.unusedVariables false
namespace Go.Proofs.Ytippbfnhgooepaa
open Go.V Classical

structure FlOk (O : Nat) (fl : Nat → List Nat) : Prop where
  len : ∀ k, k ≤ O → (fl k).length ≤ 2000
  nd : ∀ k, k ≤ O → (fl k).Nodup
  bd : ∀ k, k ≤ O → ∀ p ∈ fl k, p ≤ 2000

theorem filter_head {p : Nat} {l : List Nat} (h : (p :: l).Nodup) : (p :: l).filter (· ≠ p) = l := by
  have h1 := (List.nodup_cons.1 h).1
  rw [List.filter_cons, if_neg (by simp)]
  exact List.filter_eq_self.2 fun a ha => by
    have : a ≠ p := fun e => h1 (by rw [← e]; exact ha)
    simpa using this

theorem prL_len (L : List PBk) : (prL L).length = L.length := by simp
theorem prL_snoc (L : List PBk) (b : PBk) : prL (L ++ [b]) = prL L ++ [prV b] := by simp

theorem wrN {n : Nat} (h : n ≤ 1000000000) : IntKind.wrap .i64 (n : Int) = (n : Int) := by rw [IntKind.wrap_i64]; omega

section
variable {w₀ : World} {h : Heap} {K : Value → Heap → Prop} {c : Cfg} {r : Nat} {Y : RW6} {O : Nat} {fl : Nat → List Nat} {L : List PBk}

theorem New6_ok {a b : Int} (hO : O ≤ 8) (hK : ∀ h' Y, New h h' (rfR Y O (fun _ => []) []) → K (pv ⟨a, b, O⟩ 0 Y O []) h') :
    CallV Try.prog w₀ F.croftref6_New [.agg #[.int .u64 a, .int .i64 b, .int .i64 (O : Int)]] h K := by
  refine croftref6_New.call ?_
  unfold croftref6_New.vc
  have N5 := box3 h (.int .u64 a) (.int .i64 b) (.int .i64 (O : Int)) T.T_api_Config
  generalize Array.push h (.cells #[.int .u64 a, .int .i64 b, .int .i64 (O : Int)] T.T_api_Config) = h5 at N5 ⊢
  have N6 := box6 h5 (.int .u64 0) (.int .i64 0) (.int .i64 0) (.int .i64 0) (.slice none 0 0) (.slice none 0 0) T.T_croftref6_Pool
  generalize Array.push h5 (.cells #[.int .u64 0, .int .i64 0, .int .i64 0, .int .i64 0, .slice none 0 0, .slice none 0 0] T.T_croftref6_Pool) = h6 at N6 ⊢
  obtain ⟨b0, eb0⟩ : ∃ b0, b0 = h.size := ⟨_, rfl⟩
  obtain ⟨b1, eb1⟩ : ∃ b1, b1 = h5.size := ⟨_, rfl⟩
  rw [← eb0] at N5 ⊢
  rw [← eb1] at N6 ⊢
  have I0 := ((Hold.nil h).new N5).new N6
  intro J3 hJ3 L5 hL5
  have key : ∀ (d i : Nat) (y : Option Addr) (cap : Nat) (hx : Heap), i + d = O + 1 → Hold h hx [slR y i cap 1 (fun _ => .slice none 0 0), blkR b1 6 zF, blkR b0 3 (f3 (.int .u64 a) (.int .i64 b) (.int .i64 (O : Int)))] →
      L5 [.pointer (some ⟨b0, 0, none⟩), .pointer (some ⟨b1, 0, none⟩), .slice y i cap, .int .i64 (i : Int)] hx := by
    intro d
    induction d with
    | zero =>
      intro i y cap hx hi I
      have hi : i = O + 1 := by omega
      subst hi
      obtain ⟨k0, k1, k2⟩ := f3_cells (I.at 2)
      refine hL5 _ _ _ _ _ _ _ ⟨_, k2, iF (decide_eq_false (by omega)) (hJ3 _ _ _ _ _ _ ⟨_, k0, _, k1, _, k2, ?_⟩)⟩
      obtain ⟨w4, S4⟩ := assign6 (I.at 1) (.int .u64 a) (.int .i64 b) (.int .i64 (O : Int)) (.int .i64 0) (.slice y (O + 1) cap) (.slice none 0 0)
      have I4 := I.step 1 S4
      refine ⟨w4, ?_⟩
      generalize setCs hx ⟨b1, 0, none⟩ 0 [.int .u64 a, .int .i64 b, .int .i64 (O : Int), .int .i64 0, .slice y (O + 1) cap, .slice none 0 0] = h9 at I4 ⊢
      obtain ⟨k0, k1, k2, k3, k4, k5⟩ := f6_cells (I4.at 1)
      refine ⟨_, k0, _, k1, _, k2, _, k3, _, _, _, k4, _, _, _, k5, hK h9 ⟨y, cap, fun _ => none, fun _ => 0, none, 0⟩ ?_⟩
      have I5 := (I4.sub (rs' := [slR y (O + 1) cap 1 (fun _ => .slice none 0 0)]) (.cons_cons _ (.cons _ (.cons _ .slnil)))).toNew
      refine I5.conv (fun A => ⟨⟨A, ⟨fun k hk => sl_nil _ _ _, fun i _ j _ _ x e => absurd e (sl_nil_fp x)⟩, fun x _ ⟨k, _, e⟩ => absurd e (sl_nil_fp x)⟩, sl_nil _ _ _, fun x _ e => absurd e (sl_nil_fp x)⟩) fun x e => ?_
      rcases e with (e | ⟨k, _, e⟩) | e
      · exact e
      · exact absurd e (sl_nil_fp x)
      · exact absurd e (sl_nil_fp x)
    | succ d ih =>
      intro i y cap hx hi I
      obtain ⟨k0, k1, k2⟩ := f3_cells (I.at 2)
      obtain ⟨os, q1, q2⟩ := sl_app1 (zs := [.slice none 0 0]) (v := .slice none 0 0) (b := 24) (e := T.T_sl_int) (T := T.T_sl_int) (I.at 0) rfl rfl (by omega)
      refine hL5 _ _ _ _ _ _ _ ⟨_, k2, iT (decide_eq_true (by omega)) ⟨os, _, q1, fun p' c' h29 hres => ?_⟩⟩
      have I3 := I.step 0 (R := slR y i cap 1 (fun _ => .slice none 0 0)) (R' := slR p' (i + 1) c' 1 (fun _ => .slice none 0 0)) ((q2 p' c' h29 hres).conv (fun P => sl_congr P fun j hj => by split <;> rfl) fun _ e => e)
      rw [show IntKind.wrap .i64 ((i : Int) + 1) = ((i + 1 : Nat) : Int) by rw [IntKind.wrap_i64]; omega]
      exact ih (i + 1) p' c' h29 (by omega) I3
  exact key (O + 1) 0 none 0 h6 (by omega) (I0.new ⟨Upd.refl _ _, sl_nil _ _ _, fun b e => absurd e (sl_nil_fp b)⟩)

theorem own_put {hx h' : Heap} {E : Res} {rs : List Res} {k : Nat} {l' : List Nat} {p' : Option Addr} {c' : Nat} (I : Go.V.Own h hx E (frR Y O fl :: rs)) (hk : k ≤ O) (N : New hx h' (slR p' l'.length c' 1 (nV l'))) :
    ∃ b, Y.fp = some ⟨b, 0, none⟩ ∧ cellAt h' ⟨b, k, none⟩ = some (.slice (Y.lp k) (fl k).length (Y.lc k)) ∧ Wr h' ⟨b, k, none⟩ ∧ Go.V.Own h (setC h' ⟨b, k, none⟩ (.slice p' l'.length c')) E (frR { Y with lp := fset Y.lp k p', lc := fset Y.lc k c' } O (fset fl k l') :: rs) := by
  have I1 := (I.new N).join
  obtain ⟨b, e, w, S⟩ := fr_put hk (I1.at 0)
  obtain ⟨b', e', hc⟩ := fr_cell ((I.quiet N.u).at 0) hk
  rw [e] at e'
  cases e'
  exact ⟨b, e, hc, w, I1.step 0 S⟩

theorem Take6_ok {on : Nat} (hO : O ≤ 8) (hco : c.order = O) (ho : on ≤ O) (f : FlOk O fl) (hL : L.length ≤ 100000) (H : (rfR Y O fl L).P h)
    (h0 : (∀ j, on ≤ j → j ≤ O → fl j = []) → ∀ h', Upd NoB h h' → K (.tuple #[pv c r Y O L, .int .i64 (-1)]) h')
    (h1 : ∀ j p l, on ≤ j → j ≤ O → fl j = p :: l → (∀ i, on ≤ i → i < j → fl i = []) → ∀ h' Y', Stp h h' (rfR Y O fl L) (rfR Y' O (aCut p on (fset fl j l) (j - on)) (L ++ [(p, on)])) → K (.tuple #[pv c r Y' O (L ++ [(p, on)]), .int .i64 (p : Int)]) h') :
    CallV Try.prog w₀ F.croftref6_Take [pv c r Y O L, .int .i64 (on : Int)] h K := by
  refine croftref6_Take.call ?_
  unfold croftref6_Take.vc
  have N5 := box6 h (.int .u64 c.base) (.int .i64 c.limit) (.int .i64 c.order) (.int .i64 (r : Int)) (.slice Y.fp (O + 1) Y.fc) (.slice Y.vp L.length Y.vc) T.T_croftref6_Pool
  generalize Array.push h (.cells #[.int .u64 c.base, .int .i64 c.limit, .int .i64 c.order, .int .i64 (r : Int), .slice Y.fp (O + 1) Y.fc, .slice Y.vp L.length Y.vc] T.T_croftref6_Pool) = h5 at N5 ⊢
  have N6 := box6 h5 (.int .u64 0) (.int .i64 0) (.int .i64 0) (.int .i64 0) (.slice none 0 0) (.slice none 0 0) T.T_croftref6_Pool
  generalize Array.push h5 (.cells #[.int .u64 0, .int .i64 0, .int .i64 0, .int .i64 0, .slice none 0 0, .slice none 0 0] T.T_croftref6_Pool) = h6 at N6 ⊢
  obtain ⟨b0, eb0⟩ : ∃ b0, b0 = h.size := ⟨_, rfl⟩
  obtain ⟨b1, eb1⟩ : ∃ b1, b1 = h5.size := ⟨_, rfl⟩
  rw [← eb0] at N5 ⊢
  rw [← eb1] at N6 ⊢
  have u6 : Upd NoB h h6 := N5.u.nx N6.u fun _ e _ => e
  have I0 : Go.V.Own h h6 (rfR Y O fl L) [frR Y O fl, blkR b1 6 zF, blkR b0 6 (pvF c r Y O L), liR Y L] := (((Go.V.Own.of H).split.new N5).new N6).perm ((List.Perm.swap _ _ _).trans (List.Perm.cons _ (.swap _ _ _)))
  have B0 : (blkR b0 6 (pvF c r Y O L)).P h6 := I0.at 2
  obtain ⟨k0, k1, k2, k3, k4, k5⟩ := f6_cells B0
  intro J3 hJ3 L16 hL16
  have key : ∀ (d i : Nat), on ≤ i → i + d = O + 1 → (∀ m, on ≤ m → m < i → fl m = []) → L16 [.int .i64 (on : Int), .pointer (some ⟨b0, 0, none⟩), .pointer (some ⟨b1, 0, none⟩), .int .i64 (i : Int)] h6 := by
    intro d
    induction d with
    | zero =>
      intro i hoi hi hno
      have hi : i = O + 1 := by omega
      subst hi
      refine hL16 _ _ _ _ _ ⟨_, k2, fun J17 hJ17 => qF' (decide_eq_false (by omega)) (hJ17 _ _ (iF rfl (hJ3 _ _ _ _ _ ⟨_, k2, iT (decide_eq_true (by omega)) ⟨_, k0, _, k1, _, k2, _, k3, _, _, _, k4, _, _, _, k5, ?_⟩⟩)))⟩
      obtain ⟨w4, S4⟩ := assign6 (I0.at 1) (.int .u64 c.base) (.int .i64 c.limit) (.int .i64 c.order) (.int .i64 (r : Int)) (.slice Y.fp (O + 1) Y.fc) (.slice Y.vp L.length Y.vc)
      refine ⟨w4, ?_⟩
      have S5 : Upd NoB h _ := u6.nx S4.u fun b e hb => by
        have e : b = b1 := e
        have := N5.u.1
        omega
      have B1 := S4.p
      generalize setCs h6 ⟨b1, 0, none⟩ 0 [.int .u64 c.base, .int .i64 c.limit, .int .i64 c.order, .int .i64 (r : Int), .slice Y.fp (O + 1) Y.fc, .slice Y.vp L.length Y.vc] = h9 at S5 B1 ⊢
      obtain ⟨k0, k1, k2, k3, k4, k5⟩ := f6_cells B1
      exact ⟨_, k0, _, k1, _, k2, _, k3, _, _, _, k4, _, _, _, k5, h0 (fun j hj1 hj2 => hno j hj1 (by omega)) h9 S5⟩
    | succ d ih =>
      intro i hoi hi hno
      have hiO : i ≤ O := by omega
      obtain ⟨b, efp, vi⟩ := fr_cell (I0.at 0) hiO
      refine hL16 _ _ _ _ _ ⟨_, k2, fun J17 hJ17 => qT (decide_eq_true (by omega)) ⟨_, _, _, k4, _, efp, by omega, by omega, Y.lp i, (fl i).length, Y.lc i, by rw [at1]; exact vi, hJ17 _ _ ?_⟩⟩
      cases hF : fl i with
      | nil =>
        refine iT rfl ?_
        rw [show IntKind.wrap .i64 ((i : Int) + 1) = ((i + 1 : Nat) : Int) by rw [IntKind.wrap_i64]; omega]
        refine ih (i + 1) (by omega) (by omega) fun m hm1 hm2 => ?_
        rcases Nat.lt_or_ge m i with h9 | h9
        · exact hno m hm1 h9
        · have : m = i := by omega
          subst this; exact hF
      | cons p l =>
        have hnd := f.nd i hiO
        rw [hF] at hnd
        have hpb := f.bd i hiO p (by rw [hF]; simp)
        have hlen := f.len i hiO
        have RI : (slR (Y.lp i) (fl i).length (Y.lc i) 1 (nV (fl i))).P h6 := fr_row (I0.at 0) hiO
        rw [hF] at vi RI
        obtain ⟨lb, elp, v0⟩ := sl_cell RI (i := 0) (by simp)
        have v0 : cellAt h6 ⟨lb, 0, none⟩ = some (.int .i64 (p : Int)) := v0
        refine iF (beq_false_of_ne (by simp only [List.length_cons]; omega)) (hJ3 _ _ _ _ _ ⟨_, k2, iF (decide_eq_false (by omega)) ⟨_, _, _, k4, _, efp, by omega, by omega, _, _, _, by rw [at1]; exact vi, _, elp, Int.le_refl _, by simp only [List.length_cons]; omega, _, by rw [show (0 : Int) = ((0 : Nat) : Int) from rfl, at1]; exact v0, _, _, _, k4, _, _, _, k4, _, efp, by omega, by omega, _, _, _, by rw [at1]; exact vi, ?_⟩⟩)
        refine without6_ok (l := p :: l) (q := p) (by rw [hF] at hlen; omega) (sl_row RI) fun h7 p' c' N7 => ⟨_, _, _, _, rfl, ?_⟩
        rw [filter_head hnd] at N7 ⊢
        obtain ⟨b', efp', hc', w7, I7⟩ := own_put I0 hiO N7
        rw [efp] at efp'
        cases efp'
        refine ⟨((f6_cells ((I0.quiet N7.u).at 2)).2.2.2.2.1), _, efp, by omega, by omega, by rw [at1]; exact w7, ?_⟩
        rw [at1]
        generalize setC h7 ⟨b, i, none⟩ (.slice p' l.length c') = h8 at I7 ⊢
        intro J7 hJ7 L12 hL12
        have loop : ∀ (d : Nat) (F : Nat → List Nat) (Z : RW6) (hx : Heap), on + d ≤ O + 1 → Z.fp = Y.fp → Z.fc = Y.fc → Z.vp = Y.vp → Z.vc = Y.vc → (∀ k, k ≤ O → (F k).length + d ≤ 3000) → aCut p on F d = aCut p on (fset fl i l) (i - on) →
            Go.V.Own h hx (rfR Y O fl L) [frR Z O F, blkR b1 6 zF, blkR b0 6 (pvF c r Y O L), liR Y L] → L12 [.int .i64 (on : Int), .pointer (some ⟨b0, 0, none⟩), .pointer (some ⟨b1, 0, none⟩), .int .i64 (p : Int), .int .i64 ((on : Int) + d - 1)] hx := by
          intro d
          induction d with
          | zero =>
            intro F Z hx hd e1 e1' e2 e3 hlF hA I
            refine hL12 _ _ _ _ _ _ (iF (decide_eq_false (by omega)) (hJ7 _ _ _ _ _ ?_))
            obtain ⟨k0, k1, k2, k3, k4, k5⟩ := f6_cells (I.at 2)
            obtain ⟨os, q1, q2⟩ := sl_appB (zs := [.int .i64 0, .int .i64 0]) (xs := [.int .i64 (p : Int), .int .i64 (on : Int)]) (b := 16) (e := T.T_croftref6_Block) (T := T.T_croftref6_Block) (I.at 3) (by decide) rfl (by simp [oneC]) (by omega)
            refine ⟨_, _, _, k5, os, _, q1, fun p2 c2 h10 res => ?_⟩
            have I10 := I.step 3 (R := liR Y L) (R' := slR p2 (L.length + 1) c2 2 (runV (prL (L ++ [(p, on)])))) ((q2 p2 c2 h10 res).conv (fun A => sl_congr A fun j hj => by
              have := runV_snoc (prL L) (prV (p, on)) (i := j) (by rw [prL_len]; exact hj)
              rw [prL_len] at this
              rw [prL_snoc]; exact this) fun _ e => e)
            obtain ⟨w11, S11⟩ := f6_set5 (I10.at 2) (.slice p2 (L.length + 1) c2)
            have I11 := I10.step 2 S11
            refine ⟨w11, ?_⟩
            generalize setC h10 ((⟨b0, 0, none⟩ : Addr).add 5) (.slice p2 (L.length + 1) c2) = h11 at I11 ⊢
            obtain ⟨k0, k1, k2, k3, k4, k5⟩ := f6_cells (I11.at 2)
            refine ⟨_, k0, _, k1, _, k2, _, k3, _, _, _, k4, _, _, _, k5, ?_⟩
            obtain ⟨w12, S12⟩ := assign6 (I11.at 1) (.int .u64 c.base) (.int .i64 c.limit) (.int .i64 c.order) (.int .i64 (r : Int)) (.slice Y.fp (O + 1) Y.fc) (.slice p2 (L.length + 1) c2)
            have I12 := I11.step 1 S12
            refine ⟨w12, ?_⟩
            generalize setCs h11 ⟨b1, 0, none⟩ 0 [.int .u64 c.base, .int .i64 c.limit, .int .i64 c.order, .int .i64 (r : Int), .slice Y.fp (O + 1) Y.fc, .slice p2 (L.length + 1) c2] = h12 at I12 ⊢
            obtain ⟨k0, k1, k2, k3, k4, k5⟩ := f6_cells (I12.at 1)
            have el : (L ++ [(p, on)]).length = L.length + 1 := by simp
            have hA : F = aCut p on (fset fl i l) (i - on) := hA
            have := h1 i p l hoi hiO hF hno h12 { Z with vp := p2, vc := c2 } (by
              have S := I12.two 0 3
              show Stp _ _ _ (andR (frR { Z with vp := p2, vc := c2 } O (aCut p on (fset fl i l) (i - on))) (slR p2 (L ++ [(p, on)]).length c2 2 (runV (prL (L ++ [(p, on)])))))
              rw [el, ← hA]
              exact S)
            have this : K (.tuple #[.agg #[.int .u64 c.base, .int .i64 c.limit, .int .i64 c.order, .int .i64 (r : Int), .slice Z.fp (O + 1) Z.fc, .slice p2 (L ++ [(p, on)]).length c2], .int .i64 (p : Int)]) h12 := this
            rw [el, e1, e1'] at this
            exact ⟨_, k0, _, k1, _, k2, _, k3, _, _, _, k4, _, _, _, k5, this⟩
          | succ d ihd =>
            intro F Z hx hd e1 e1' e2 e3 hlF hA I
            have hkO : on + d ≤ O := by omega
            have hlk := hlF (on + d) hkO
            obtain ⟨k0, k1, k2, k3, k4, k5⟩ := f6_cells (I.at 2)
            obtain ⟨bz, ezp, vz⟩ := fr_cell (I.at 0) hkO
            have RZ : (slR (Z.lp (on + d)) (F (on + d)).length (Z.lc (on + d)) 1 (nV (F (on + d)))).P hx := fr_row (I.at 0) hkO
            have ezp' : Y.fp = some ⟨bz, 0, none⟩ := by rw [← e1]; exact ezp
            have ei : (on : Int) + (d + 1 : Nat) - 1 = ((on + d : Nat) : Int) := by omega
            rw [ei]
            have p8 := pow8 (show on + d ≤ 8 by omega)
            refine hL12 _ _ _ _ _ _ (iT (decide_eq_true (by omega)) ⟨_, _, _, k4, _, _, _, k4, _, ezp', by omega, by omega, _, _, _, by rw [at1]; exact vz, ?_⟩)
            refine Power_ok (by omega) ⟨_, rfl, by rw [at1]; exact vz, k4, k4, ?_⟩
            rw [show IntKind.wrap .i64 ((p : Int) + ((2 ^ (on + d) : Nat) : Int)) = ((p + 2 ^ (on + d) : Nat) : Int) by rw [IntKind.wrap_i64]; omega]
            refine push6_ok (by omega) (sl_row RZ) fun h9 p9 c9 N9 => ⟨_, _, _, rfl, (f6_cells ((I.quiet N9.u).at 2)).2.2.2.2.1, _, ezp', by omega, by omega, ?_⟩
            obtain ⟨b9, e9, hc9, w9, I9⟩ := own_put I hkO N9
            rw [ezp] at e9
            cases e9
            rw [at1]
            refine ⟨w9, ?_⟩
            rw [show IntKind.wrap .i64 (((on + d : Nat) : Int) - 1) = (on : Int) + d - 1 by rw [IntKind.wrap_i64]; omega]
            refine ihd (fset F (on + d) ((p + 2 ^ (on + d)) :: F (on + d))) { Z with lp := fset Z.lp (on + d) p9, lc := fset Z.lc (on + d) c9 } _ (by omega) e1 e1' e2 e3 (fun k hk => ?_) hA I9
            have := hlF k hk
            unfold fset
            split
            · simp only [List.length_cons]; omega
            · omega
        have := loop (i - on) (fset fl i l) { Y with lp := fset Y.lp i p', lc := fset Y.lc i c' } h8 (by omega) rfl rfl rfl rfl (fun k hk => by
          have := f.len k hk
          unfold fset
          split
          · rw [hF] at hlen; simp only [List.length_cons] at hlen; omega
          · omega) rfl I7
        rw [show (on : Int) + ((i - on : Nat) : Int) - 1 = (i : Int) - 1 by omega] at this
        rw [show IntKind.wrap .i64 ((i : Int) - 1) = (i : Int) - 1 by rw [IntKind.wrap_i64]; omega]
        exact this
  exact key (O + 1 - on) on (Nat.le_refl _) (by omega) fun m h1 h2 => by omega
end
end Go.Proofs.Ytippbfnhgooepaa
