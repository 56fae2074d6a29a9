/- Chapter 3's own answer: All, Begin, Go. No condition. -/
import Derived.Test.YtfijahblggnbbaaKD
set_option linter.unusedSimpArgs false
set_option linter.unusedVariables false
namespace Go.Proofs.Ytfijahblggnbbaa
open Go.V Classical

theorem walkL_take (c : Cfg) (st : Sto) : ∀ (k n : Nat) (p b : Int), walkL c st (min k n) p b = (walkL c st k p b).take n
  | 0, n, p, b => by simp [walkL]
  | k + 1, 0, p, b => by simp [walkL]
  | k + 1, n + 1, p, b => by
    rw [Nat.succ_min_succ]
    simp only [walkL]
    cases ((p == 0 || !st.th c p 16) || (lk2 st c p != b))
    · simp only [cond_false, List.take_succ_cons]
      rw [walkL_take c st k n]
    · simp

section
variable {w₀ : World} {h : Heap} {c : Cfg} {mp : Option Addr} {mc : Nat} {Y : Nat → Prop} {st : Sto} {K : Value → Heap → Prop}

theorem ref3_All_ok {hd : Int} {m : Nat} (hh : U64 hd) (hm : m ≤ 1073741824) (H : (rsR c mp mc Y st).P h)
    (hK : ∀ (h' : Heap) (p : Option Addr) (cap : Nat) (ys : List Int), ys = walkL c st (min (roomU c st) m) hd 0 → Stp h h' (rsR c mp mc Y st) (andR (rsR c mp mc Y st) (slR p ys.length cap 1 (uL ys))) → K (.slice p ys.length cap) h') :
    CallV Try.prog w₀ F.croftref3_All [rsv c st.n mp mc, .int .u64 hd, .int .i64 ((m : Nat) : Int)] h K := by
  refine croftref3_All.call ?_
  intro J2 hJ2 L3 hL3
  have hY := rY H
  have hl := H.len
  have P0 := (rsR c mp mc Y st).st H (HP_upd (c := c) (n := st.n) (mp := mp) (mc := mc)) fun _ _ => id
  have er : IntKind.wrap .i64 (Int.tdiv ((st.n * c.size : Nat) : Int) 16) = ((roomU c st : Nat) : Int) := by
    rw [Int.tdiv_eq_ediv_of_nonneg (by omega), show ((st.n * c.size : Nat) : Int) / 16 = ((st.n * c.size / 16 : Nat) : Int) by omega, IntWalk.i64_in _ (by omega)]
    rfl
  have hroom : roomU c st ≤ 4194304 := Nat.le_trans (Nat.div_le_self _ _) hl.1
  have loop : ∀ (k i : Nat) (acc : List Int) (p b : Int) (q : Option Addr) (cap : Nat) (h1 : Heap), i + k = min (roomU c st) m → acc.length = i → U64 p → acc ++ walkL c st k p b = walkL c st (min (roomU c st) m) hd 0 →
      Stp (HP h c st.n mp mc) h1 (rsR c mp mc Y st) (andR (rsR c mp mc Y st) (slR q acc.length cap 1 (uL acc))) →
      L3 [.int .i64 ((m : Nat) : Int), .pointer (some ⟨h.size, 0, none⟩), .slice q acc.length cap, .int .u64 b, .int .u64 p, .int .i64 ((i : Nat) : Int)] h1 := by
    intro k
    induction k with
    | zero =>
      intro i acc p b q cap h1 hi ha hp hw S1
      have P1 := S1.p
      obtain ⟨a0, a1, a2, a3⟩ := rs_cells S1.u hY
      refine hL3 _ _ _ _ _ _ _ _ _ ⟨_, _, _, a3, by omega, jand.2 ?_⟩
      rw [er]
      have e : (decide (((i : Nat) : Int) < ((roomU c st : Nat) : Int)) && decide (((i : Nat) : Int) < ((m : Nat) : Int))) = false := by
        rcases Nat.lt_or_ge i (roomU c st) with h2 | h2
        · rw [decide_eq_false (show ¬ ((i : Nat) : Int) < ((m : Nat) : Int) by omega), Bool.and_false]
        · rw [decide_eq_false (show ¬ ((i : Nat) : Int) < ((roomU c st : Nat) : Int) by omega), Bool.false_and]
      rw [e]
      have hw : acc = walkL c st (min (roomU c st) m) hd 0 := by simpa [walkL] using hw
      refine ⟨fun e => (by cases e), fun _ => hJ2 _ _ _ _ (hK h1 q cap acc hw ((Stp.quiet H HP_upd).trans S1))⟩
    | succ k ih =>
      intro i acc p b q cap h1 hi ha hp hw S1
      have P1 := S1.p
      obtain ⟨a0, a1, a2, a3⟩ := rs_cells S1.u hY
      refine hL3 _ _ _ _ _ _ _ _ _ ⟨_, _, _, a3, by omega, jand.2 ?_⟩
      rw [er]
      have e : (decide (((i : Nat) : Int) < ((roomU c st : Nat) : Int)) && decide (((i : Nat) : Int) < ((m : Nat) : Int))) = true := by
        rw [decide_eq_true (show ((i : Nat) : Int) < ((roomU c st : Nat) : Int) by omega), decide_eq_true (show ((i : Nat) : Int) < ((m : Nat) : Int) by omega)]; rfl
      rw [e]
      refine ⟨fun _ J5 hJ5 => ?_, fun e => by cases e⟩
      have stop : ∀ h2, Stp (HP h c st.n mp mc) h2 (rsR c mp mc Y st) (andR (rsR c mp mc Y st) (slR q acc.length cap 1 (uL acc))) → ((p == 0 || !st.th c p 16) || (lk2 st c p != b)) = true → K (.slice q acc.length cap) h2 := by
        intro h2 S2 hs
        simp only [walkL, hs, cond_true, List.append_nil] at hw
        exact hK h2 q cap acc hw ((Stp.quiet H HP_upd).trans S2)
      by_cases hz : p = 0
      · exact pT (by simp [hz]) (hJ5 _ _ fun J6 hJ6 => pT rfl (hJ6 _ _ (iT rfl (stop h1 S1 (by simp [hz])))))
      have hz' : (p == 0) = false := beq_false_of_ne hz
      refine pF hz' ⟨_, a0, _, a1, _, a2, _, _, _, a3, ref3_There_ok hp P1.1 fun h2 u2 => ⟨_, rfl, hJ5 _ _ fun J6 hJ6 => ?_⟩⟩
      have S2 := S1.trans (Stp.quiet P1 u2)
      have P2 := S2.p
      cases t : st.th c p 16
      · exact pT rfl (hJ6 _ _ (iT rfl (stop h2 S2 (by rw [hz', t]; rfl))))
      have el : lk2 st c p = st.rd c (p + 8) := by simp [lk2, t]
      obtain ⟨a0, a1, a2, a3⟩ := rs_cells S2.u hY
      refine pF rfl ⟨_, a0, _, a1, _, a2, _, _, _, a3, ref3_Prev_ok t P2.1 fun h3 u3 => ⟨_, rfl, hJ6 _ _ ?_⟩⟩
      have S3 := S2.trans (Stp.quiet P2 u3)
      have P3 := S3.p
      by_cases hb : st.rd c (p + 8) = b
      · refine iF (eq_b hb) ?_
        have hs : ((p == 0 || !st.th c p 16) || (lk2 st c p != b)) = false := by rw [hz', t, el, eq_b hb]; rfl
        simp only [walkL, hs, cond_false] at hw
        obtain ⟨os, q1, q2⟩ := sl_app1 (zs := [(.int .u64 (0 : Int))]) (v := .int .u64 p) (b := 8) (e := T.T_uint64) (T := T.T_uint64) P3.2.1 rfl rfl (by omega)
        refine ⟨os, _, q1, fun p4 c4 h4 hres => ?_⟩
        have A4 : Stp h3 h4 (slR q acc.length cap 1 (uL acc)) (slR p4 (acc ++ [p]).length c4 1 (uL (acc ++ [p]))) := (q2 p4 c4 h4 hres).conv (fun P => by
          have P := sl_congr P (g := uL (acc ++ [p])) fun i hi => uL_snoc acc p i (by omega)
          simpa using P) fun _ e => e
        have S4 := S3.trans (A4.right P3)
        have P4 := S4.p
        obtain ⟨a0, a1, a2, a3⟩ := rs_cells S4.u hY
        refine ⟨_, a0, _, a1, _, a2, _, _, _, a3, ref3_Next_ok (th8 t).1 P4.1 fun h5 u5 => ⟨_, rfl, ?_⟩⟩
        have S5 := S4.trans (Stp.quiet P4 u5)
        rw [IntWalk.i64_in _ (by omega)]
        have e1 : lk1 st c p = st.rd c p := by simp [lk1, (th8 t).1]
        have := ih (i + 1) (acc ++ [p]) (st.rd c p) p p4 c4 h5 (by omega) (by simp [ha]) (rrd_U64 H (th8 t).1) (by rw [← hw, e1]; simp) S5
        simpa using this
      · exact iT (ne_b hb) (stop h3 S3 (by rw [el, ne_b hb]; simp))
  have N0 : Stp (HP h c st.n mp mc) (HP h c st.n mp mc) (rsR c mp mc Y st) (andR (rsR c mp mc Y st) (slR none 0 0 1 (uL []))) :=
    ⟨Upd.refl _ _, ⟨P0, sl_nil 1 _ _, fun b e e' => absurd e' (sl_nil_fp b)⟩, fun b e => e.elim .inl fun e => absurd e (sl_nil_fp b)⟩
  exact loop (min (roomU c st) m) 0 [] hd 0 none 0 _ (by omega) rfl hh (by simp) N0

/-- Three cells written in a new block. -/
theorem res3 {hx : Heap} {b : Nat} {f : Nat → Value} (B : Blk hx b 3 f) (v0 v1 v2 : Value) :
    WrN hx ⟨b, 0, none⟩ 3 ∧ cellAt (setCs hx ⟨b, 0, none⟩ 0 [v0, v1, v2]) ⟨b, 0, none⟩ = some v0 ∧ cellAt (setCs hx ⟨b, 0, none⟩ 0 [v0, v1, v2]) ⟨b, 1, none⟩ = some v1 ∧ cellAt (setCs hx ⟨b, 0, none⟩ 0 [v0, v1, v2]) ⟨b, 2, none⟩ = some v2 := by
  have S := B.sets [v0, v1, v2] 0 0
  refine ⟨fun j hj => by rw [add_mk]; exact B.wr (by omega), ?_, ?_, ?_⟩
  · rw [S.cell (by omega)]; rfl
  · rw [S.cell (by omega)]; rfl
  · rw [S.cell (by omega)]; rfl

/-- A range under way. -/
structure Wk where
  p : Int
  b : Int
  left : Int

abbrev wkv (w : Wk) : Value := .agg #[.int .u64 w.p, .int .u64 w.b, .int .i64 w.left]

theorem ref3_Begin_ok {hd : Int} (H : (rsR c mp mc Y st).P h) (hK : ∀ h', Upd NoB h h' → K (wkv ⟨hd, 0, ((roomU c st : Nat) : Int)⟩) h') :
    CallV Try.prog w₀ F.croftref3_Begin [rsv c st.n mp mc, .int .u64 hd] h K := by
  refine croftref3_Begin.call ?_
  have hl := H.len
  have er : IntKind.wrap .i64 (Int.tdiv ((st.n * c.size : Nat) : Int) 16) = ((roomU c st : Nat) : Int) := by
    rw [Int.tdiv_eq_ediv_of_nonneg (by omega), show ((st.n * c.size : Nat) : Int) / 16 = ((st.n * c.size / 16 : Nat) : Int) by omega, IntWalk.i64_in _ (by omega)]
    rfl
  unfold croftref3_Begin.vc
  have u0 : Upd NoB h (HP h c st.n mp mc) := HP_upd
  have N1 := New.box (HP h c st.n mp mc) #[(.int .u64 (0 : Int)), (.int .u64 (0 : Int)), (.int .i64 (0 : Int))] T.T_croftref3_Walk
  have e3 := (HP_cells (h := h) (c := c) (n := st.n) (mp := mp) (mc := mc) N1.u (fun e => e)).2.2.2
  obtain ⟨r0, r1, r2, r3⟩ := res3 N1.p (.int .u64 hd) (.int .u64 0) (.int .i64 ((roomU c st : Nat) : Int))
  refine ⟨_, _, _, e3, by omega, ?_⟩
  rw [er]
  refine ⟨r0, _, r1, _, r2, _, r3, hK _ ?_⟩
  refine (u0.nx N1.u fun _ e _ => e).nx (setCs_upd _ _ _ _) fun b e hb => ?_
  have e : b = (HP h c st.n mp mc).size := e
  have := u0.1
  omega

def goU (c : Cfg) (st : Sto) (w : Wk) : Wk × Int × Bool :=
  if w.left = 0 ∨ w.p = 0 ∨ st.th c w.p 16 = false ∨ st.rd c (w.p + 8) ≠ w.b then (w, 0, false) else (⟨st.rd c w.p, w.p, w.left - 1⟩, w.p, true)

theorem ref3_Go_ok {w : Wk} (hp : U64 w.p) (hl : 0 ≤ w.left ∧ w.left < 9223372036854775808) (H : (rsR c mp mc Y st).P h) (hK : ∀ h', Upd NoB h h' → K (.tuple #[wkv (goU c st w).1, .int .u64 (goU c st w).2.1, .bool (goU c st w).2.2]) h') :
    CallV Try.prog w₀ F.croftref3_Go [rsv c st.n mp mc, wkv w] h K := by
  refine croftref3_Go.call ?_
  unfold croftref3_Go.vc
  have u0 : Upd NoB h (HP h c st.n mp mc) := HP_upd
  have N1 := New.box (HP h c st.n mp mc) #[(.int .u64 w.p), (.int .u64 w.b), (.int .i64 w.left)] T.T_croftref3_Walk
  generalize hh1 : Array.push (HP h c st.n mp mc) (.cells #[(.int .u64 w.p), (.int .u64 w.b), (.int .i64 w.left)] T.T_croftref3_Walk) = h1 at N1
  have N2 := New.box h1 #[(.int .u64 (0 : Int)), (.int .u64 (0 : Int)), (.int .i64 (0 : Int))] T.T_croftref3_Walk
  have hs0 : (HP h c st.n mp mc).size = h.size + 1 := by simp [HP]
  have hs1 : h1.size = h.size + 2 := by rw [← hh1]; simp [HP]
  generalize hh2 : Array.push h1 (.cells #[(.int .u64 (0 : Int)), (.int .u64 (0 : Int)), (.int .i64 (0 : Int))] T.T_croftref3_Walk) = h2 at N2 ⊢
  have U2 : Upd NoB (HP h c st.n mp mc) h2 := N1.u.nx N2.u fun _ e _ => e
  have W1 := (N1.quiet N2.u).p
  -- what stands wherever nothing of old is touched
  have P2 := ((Stp.quiet H u0).trans (Stp.quiet ((Stp.quiet H u0).p) U2)).p
  have cw : ∀ hx, Upd NoB h2 hx → cellAt hx ⟨(HP h c st.n mp mc).size, 0, none⟩ = some (.int .u64 w.p) ∧ cellAt hx ⟨(HP h c st.n mp mc).size, 1, none⟩ = some (.int .u64 w.b) ∧ cellAt hx ⟨(HP h c st.n mp mc).size, 2, none⟩ = some (.int .i64 w.left) := by
    intro hx u
    have W := (blkR _ _ _).st W1 u fun _ _ => id
    exact ⟨W.cell (i := 0) (by simp), W.cell (i := 1) (by simp), W.cell (i := 2) (by simp)⟩
  have cs : ∀ hx, Upd NoB h2 hx → _ := fun hx u => HP_cells (h := h) (c := c) (n := st.n) (mp := mp) (mc := mc) (U2.nx u fun _ e _ => e) fun e => e
  have fin : ∀ hx (v0 v1 v2 : Value), Upd NoB h2 hx → WrN hx ⟨h1.size, 0, none⟩ 3 ∧ cellAt (setCs hx ⟨h1.size, 0, none⟩ 0 [v0, v1, v2]) ⟨h1.size, 0, none⟩ = some v0 ∧ cellAt (setCs hx ⟨h1.size, 0, none⟩ 0 [v0, v1, v2]) ⟨h1.size, 1, none⟩ = some v1 ∧
      cellAt (setCs hx ⟨h1.size, 0, none⟩ 0 [v0, v1, v2]) ⟨h1.size, 2, none⟩ = some v2 ∧ Upd NoB h (setCs hx ⟨h1.size, 0, none⟩ 0 [v0, v1, v2]) := by
    intro hx v0 v1 v2 u
    have B := (blkR _ _ _).st N2.p u fun _ _ => id
    obtain ⟨r0, r1, r2, r3⟩ := res3 B v0 v1 v2
    refine ⟨r0, r1, r2, r3, ((u0.nx U2 fun _ e _ => e).nx u fun _ e _ => e).nx (setCs_upd _ _ _ _) fun b e hb => ?_⟩
    have e : b = h1.size := e
    omega
  obtain ⟨w0, w1, w2⟩ := cw h2 (Upd.refl _ _)
  refine ⟨_, w2, fun J4 hJ4 => ?_⟩
  have stop : ∀ hx, Upd NoB h2 hx → (w.left = 0 ∨ w.p = 0 ∨ st.th c w.p 16 = false ∨ st.rd c (w.p + 8) ≠ w.b) → K (.tuple #[wkv w, .int .u64 0, .bool false]) (setCs hx ⟨h1.size, 0, none⟩ 0 [.int .u64 w.p, .int .u64 w.b, .int .i64 w.left]) := by
    intro hx u hs
    have := hK _ (fin hx (.int .u64 w.p) (.int .u64 w.b) (.int .i64 w.left) u).2.2.2.2
    unfold goU at this
    rw [if_pos hs] at this
    exact this
  by_cases h0 : w.left = 0
  · refine pT (by simp [h0]) (hJ4 _ _ fun J5 hJ5 => pT rfl (hJ5 _ _ fun J6 hJ6 => pT rfl (hJ6 _ _ (iT rfl ?_))))
    obtain ⟨r0, r1, r2, r3, _⟩ := fin h2 (.int .u64 w.p) (.int .u64 w.b) (.int .i64 w.left) (Upd.refl _ _)
    exact ⟨_, w0, _, w1, _, w2, r0, _, r1, _, r2, _, r3, stop h2 (Upd.refl _ _) (.inl h0)⟩
  refine pF (beq_false_of_ne h0) ⟨_, w0, hJ4 _ _ fun J5 hJ5 => ?_⟩
  by_cases hz : w.p = 0
  · refine pT (by simp [hz]) (hJ5 _ _ fun J6 hJ6 => pT rfl (hJ6 _ _ (iT rfl ?_)))
    obtain ⟨r0, r1, r2, r3, _⟩ := fin h2 (.int .u64 w.p) (.int .u64 w.b) (.int .i64 w.left) (Upd.refl _ _)
    exact ⟨_, w0, _, w1, _, w2, r0, _, r1, _, r2, _, r3, stop h2 (Upd.refl _ _) (.inr (.inl hz))⟩
  obtain ⟨a0, a1, a2, a3⟩ := cs h2 (Upd.refl _ _)
  refine pF (beq_false_of_ne hz) ⟨_, a0, _, a1, _, a2, _, _, _, a3, _, w0, ref3_There_ok hp P2 fun h3 u3 => ⟨_, rfl, hJ5 _ _ fun J6 hJ6 => ?_⟩⟩
  obtain ⟨w0, w1, w2⟩ := cw h3 u3
  obtain ⟨a0, a1, a2, a3⟩ := cs h3 u3
  cases t : st.th c w.p 16
  · refine pT rfl (hJ6 _ _ (iT rfl ?_))
    obtain ⟨r0, r1, r2, r3, _⟩ := fin h3 (.int .u64 w.p) (.int .u64 w.b) (.int .i64 w.left) u3
    exact ⟨_, w0, _, w1, _, w2, r0, _, r1, _, r2, _, r3, stop h3 u3 (.inr (.inr (.inl t)))⟩
  have P3 := (rsR c mp mc Y st).st P2 u3 fun _ _ => id
  refine pF rfl ⟨_, a0, _, a1, _, a2, _, _, _, a3, _, w0, _, w1, ref3_Prev_ok t P3 fun h4 u4 => ⟨_, rfl, ?_⟩⟩
  have v4 : Upd NoB h2 h4 := u3.nx u4 fun _ e _ => e
  obtain ⟨w0, w1, w2⟩ := cw h4 v4
  obtain ⟨a0, a1, a2, a3⟩ := cs h4 v4
  refine ⟨w1, hJ6 _ _ ?_⟩
  by_cases hb : st.rd c (w.p + 8) = w.b
  · have P4 := (rsR c mp mc Y st).st P3 u4 fun _ _ => id
    refine iF (eq_b hb) ⟨_, a0, _, a1, _, a2, _, _, _, a3, _, w0, _, w0, _, w2, _, w0, ref3_Next_ok (th8 t).1 P4 fun h5 u5 => ⟨_, rfl, ?_⟩⟩
    have v5 : Upd NoB h2 h5 := v4.nx u5 fun _ e _ => e
    obtain ⟨w0, w1, w2⟩ := cw h5 v5
    have ew : IntKind.wrap .i64 (w.left - 1) = w.left - 1 := IntWalk.i64_in _ (by omega)
    rw [ew]
    obtain ⟨r0, r1, r2, r3, r4⟩ := fin h5 (.int .u64 (st.rd c w.p)) (.int .u64 w.p) (.int .i64 (w.left - 1)) v5
    have wp : cellAt (setCs h5 ⟨h1.size, 0, none⟩ 0 [.int .u64 (st.rd c w.p), .int .u64 w.p, .int .i64 (w.left - 1)]) ⟨(HP h c st.n mp mc).size, 0, none⟩ = some (.int .u64 w.p) :=
      cellAt_upd w0 (setCs_upd _ _ _ _) fun e => by have e : (HP h c st.n mp mc).size = h1.size := e; omega
    refine ⟨w0, w2, w0, r0, wp, _, r1, _, r2, _, r3, ?_⟩
    have := hK _ r4
    unfold goU at this
    rw [if_neg (by rintro (e | e | e | e)
                   · exact h0 e
                   · exact hz e
                   · rw [t] at e; cases e
                   · exact e hb)] at this
    exact this
  · refine iT (ne_b hb) ?_
    obtain ⟨r0, r1, r2, r3, _⟩ := fin h4 (.int .u64 w.p) (.int .u64 w.b) (.int .i64 w.left) v4
    exact ⟨_, w0, _, w1, _, w2, r0, _, r1, _, r2, _, r3, stop h4 v4 (.inr (.inr (.inr hb)))⟩
end
end Go.Proofs.Ytfijahblggnbbaa
