/- Chapter 3's own answer: what its functions do, each with one plain answer. No condition. -/
import Derived.Test.YtfijahblggnbbaaK5
import Derived.Test.YtfijahblggnbbaaWD
set_option linter.unusedSimpArgs false
set_option linter.unusedVariables false
namespace Go.Proofs.Ytfijahblggnbbaa
open Go.V Classical

/-- The document's own space in the heap. -/
def rsR (c : Cfg) (mp : Option Addr) (mc : Nat) (Y : Nat → Prop) (st : Sto) : Res := ⟨Y, fun h => Rs h c st.n st.M mp mc Y, fun H hu hs => H.upd hu hs, fun H => H.lt⟩

section
variable {w₀ : World} {h : Heap} {c : Cfg} {mp : Option Addr} {mc : Nat} {Y : Nat → Prop} {st : Sto} {K : Value → Heap → Prop}

theorem rs_end (H : (rsR c mp mc Y st).P h) : c.base + ((st.n * c.size : Nat) : Int) ≤ 9223372036854775808 ∧ 0 < c.base := ⟨H.len.2, H.good.b0⟩

theorem rth_lt (H : (rsR c mp mc Y st).P h) {p q : Int} (t : st.th c p q = true) (hq : 0 < q) : c.base ≤ p ∧ p + q ≤ 9223372036854775808 ∧ p - c.base + q ≤ ((st.n * c.size : Nat) : Int) := by
  have := rs_end H
  rcases th_iff.1 t with e | ⟨e1, e2⟩
  · omega
  · omega

theorem rrd_U64 (H : (rsR c mp mc Y st).P h) {p : Int} (t : st.th c p 8 = true) : U64 (st.rd c p) := by
  have h1 := rth_lt H t (by omega)
  have := wrd_lt (k := 8) (f := fun i => st.M ((p - c.base).toNat + i)) fun i hi => H.by8 _ (by omega)
  exact ⟨this.1, this.2⟩

theorem rY (H : (rsR c mp mc Y st).P h) : ¬ Y h.size := fun e => by have := H.lt _ e; omega

theorem ref_word_ok {p : Int} (t : st.th c p 8 = true) (H : (rsR c mp mc Y st).P h) (hK : ∀ h', Upd NoB h h' → K (.int .u64 (st.rd c p)) h') :
    CallV Try.prog w₀ F.croftref2_Word [rsv c st.n mp mc, .int .u64 p] h K := by
  have h1 := rth_lt H t (by omega)
  obtain ⟨off, rfl⟩ : ∃ off : Nat, p = c.base + (off : Int) := ⟨(p - c.base).toNat, by omega⟩
  refine ref2_Word_ok (by omega) H fun h' u => ?_
  have := hK h' u
  unfold Sto.rd at this
  rw [show (c.base + (off : Int) - c.base).toNat = off by omega] at this
  exact this

theorem ref_setw_ok {p v : Int} (hv : U64 v) (t : st.th c p 8 = true) (H : (rsR c mp mc Y st).P h)
    (hK : ∀ h', Stp h h' (rsR c mp mc Y st) (rsR c mp mc Y (st.wr c p v)) → K (.tuple #[]) h') : CallV Try.prog w₀ F.croftref2_SetWord [rsv c st.n mp mc, .int .u64 p, .int .u64 v] h K := by
  have h1 := rth_lt H t (by omega)
  obtain ⟨off, rfl⟩ : ∃ off : Nat, p = c.base + (off : Int) := ⟨(p - c.base).toNat, by omega⟩
  refine ref2_SetWord_ok hv (by omega) H fun h' u H' => hK h' ⟨u, ?_, fun _ e => .inl e⟩
  refine H'.congr fun o ho => ?_
  simp only [Sto.wr]
  rw [show (c.base + (off : Int) - c.base).toNat = off by omega]

/-- The cells of a space that was handed over, wherever they stand still. -/
theorem rs_cells {h' : Heap} {n : Nat} (hu : Upd Y (HP h c n mp mc) h') (hY : ¬ Y h.size) :
    cellAt h' ⟨h.size, 0, none⟩ = some (.int .u64 c.base) ∧ cellAt h' ⟨h.size, 1, none⟩ = some (.int .u64 (c.size : Int)) ∧ cellAt h' ⟨h.size, 2, none⟩ = some (.int .i64 c.limit) ∧ cellAt h' ⟨h.size, 3, none⟩ = some (.slice mp (n * c.size) mc) :=
  HP_cells hu hY

theorem ref3_There_ok {p : Int} (hp : U64 p) (H : (rsR c mp mc Y st).P h) (hK : ∀ h', Upd NoB h h' → K (.bool (st.th c p 16)) h') :
    CallV Try.prog w₀ F.croftref3_There [rsv c st.n mp mc, .int .u64 p] h K := by
  refine croftref3_There.call ?_
  refine ⟨_, HP_0, _, HP_1, _, HP_2, _, _, _, HP_3, ?_⟩
  have H1 := (rsR c mp mc Y st).st H (HP_upd (c := c) (n := st.n) (mp := mp) (mc := mc)) fun _ _ => id
  refine ref2_There_ok hp (by omega) H1 fun h' u => ⟨_, rfl, ?_⟩
  have := hK h' (HP_upd.nx u fun _ e _ => e)
  have e : decide (There c st.n p 16) = st.th c p 16 := by rw [Bool.eq_iff_iff, decide_eq_true_eq, th_iff]
  rw [e]; exact this

theorem ref3_Next_ok {p : Int} (t : st.th c p 8 = true) (H : (rsR c mp mc Y st).P h) (hK : ∀ h', Upd NoB h h' → K (.int .u64 (st.rd c p)) h') :
    CallV Try.prog w₀ F.croftref3_Next [rsv c st.n mp mc, .int .u64 p] h K := by
  refine croftref3_Next.call ?_
  refine ⟨_, HP_0, _, HP_1, _, HP_2, _, _, _, HP_3, ?_⟩
  have H1 := (rsR c mp mc Y st).st H (HP_upd (c := c) (n := st.n) (mp := mp) (mc := mc)) fun _ _ => id
  exact ref_word_ok t H1 fun h' u => ⟨_, rfl, hK h' (HP_upd.nx u fun _ e _ => e)⟩

theorem ref3_Prev_ok {p : Int} (t : st.th c p 16 = true) (H : (rsR c mp mc Y st).P h) (hK : ∀ h', Upd NoB h h' → K (.int .u64 (st.rd c (p + 8))) h') :
    CallV Try.prog w₀ F.croftref3_Prev [rsv c st.n mp mc, .int .u64 p] h K := by
  refine croftref3_Prev.call ?_
  refine ⟨_, HP_0, _, HP_1, _, HP_2, _, _, _, HP_3, ?_⟩
  have H1 := (rsR c mp mc Y st).st H (HP_upd (c := c) (n := st.n) (mp := mp) (mc := mc)) fun _ _ => id
  have h1 := rth_lt H t (by omega)
  have := (rs_end H).2
  rw [wrap_add8 (by omega) (by omega)]
  exact ref_word_ok (th8 t).2 H1 fun h' u => ⟨_, rfl, hK h' (HP_upd.nx u fun _ e _ => e)⟩

theorem ref3_Push_ok {hd p : Int} (hh : U64 hd) (hp : U64 p) (H : (rsR c mp mc Y st).P h)
    (hK : ∀ h', Stp h h' (rsR c mp mc Y st) (rsR c mp mc Y (pushU c ⟨st, hd⟩ p).1.st) → K (.tuple #[.int .u64 (pushU c ⟨st, hd⟩ p).1.hd, .int .i64 (pushU c ⟨st, hd⟩ p).2]) h') :
    CallV Try.prog w₀ F.croftref3_Push [rsv c st.n mp mc, .int .u64 hd, .int .u64 p] h K := by
  refine croftref3_Push.call ?_
  have hY := rY H
  have U0 : Upd NoB h (HP h c st.n mp mc) := HP_upd
  refine ⟨_, HP_0, _, HP_1, _, HP_2, _, _, _, HP_3, ?_⟩
  have S0 : Stp h (HP h c st.n mp mc) (rsR c mp mc Y st) (rsR c mp mc Y st) := Stp.quiet H U0
  refine ref3_There_ok hp S0.p fun h1 u1 => ⟨_, rfl, ?_⟩
  have V1 : Upd Y (HP h c st.n mp mc) h1 := u1.mono fun _ e _ => e.elim
  have S1 := S0.trans (Stp.quiet S0.p u1)
  cases t : st.th c p 16
  · have e : pushU c ⟨st, hd⟩ p = (⟨st, hd⟩, 4) := by simp [pushU, t]
    rw [e] at hK
    exact iT rfl (hK h1 S1)
  refine iF rfl fun J3 hJ3 => ?_
  have tl := rth_lt H t (by omega)
  have b0 := (rs_end H).2
  obtain ⟨t1, t2⟩ := th8 t
  have bad : ∀ h2, Stp h h2 (rsR c mp mc Y st) (rsR c mp mc Y st) → hd ≠ 0 → (st.th c hd 16 = false ∨ st.rd c (hd + 8) ≠ 0) → J3 true h2 := by
    intro h2 S2 hz hb
    have e : pushU c ⟨st, hd⟩ p = (⟨st, hd⟩, 8) := by unfold pushU; rw [if_neg (by simp [t]), if_pos ⟨hz, hb⟩]
    rw [e] at hK
    exact hJ3 _ _ (iT rfl (hK h2 S2))
  have good : ∀ h2, Upd Y (HP h c st.n mp mc) h2 → Stp h h2 (rsR c mp mc Y st) (rsR c mp mc Y st) → (hd = 0 ∨ (st.th c hd 16 = true ∧ st.rd c (hd + 8) = 0)) → J3 false h2 := by
    intro h2 V2 S2 ok
    have hnb : ¬ (hd ≠ 0 ∧ (st.th c hd 16 = false ∨ st.rd c (hd + 8) ≠ 0)) := by
      rintro ⟨h0, h1⟩
      rcases ok with e | ⟨e1, e2⟩
      · exact h0 e
      · rcases h1 with h1 | h1
        · rw [e1] at h1; cases h1
        · exact h1 e2
    obtain ⟨a0, a1, a2, a3⟩ := rs_cells V2 hY
    refine hJ3 _ _ (iF rfl ⟨_, a0, _, a1, _, a2, _, _, _, a3, ?_⟩)
    refine ref_setw_ok hh t1 S2.p fun h3 T3 => ⟨rfl, ?_⟩
    have V3 := V2.nx T3.u fun _ e _ => e
    have S3 := S2.trans T3
    obtain ⟨a0, a1, a2, a3⟩ := rs_cells V3 hY
    refine ⟨_, a0, _, a1, _, a2, _, _, _, a3, ?_⟩
    rw [wrap_add8 hp.1 (by omega)]
    refine ref_setw_ok (st := st.wr c p hd) (by omega) t2 S3.p fun h4 T4 => ⟨rfl, fun J6 hJ6 => ?_⟩
    have V4 := V3.nx T4.u fun _ e _ => e
    have S4 := S3.trans T4
    by_cases hz : hd = 0
    · have e : pushU c ⟨st, hd⟩ p = (⟨(st.wr c p hd).wr c (p + 8) 0, p⟩, 0) := by unfold pushU; rw [if_neg (by simp [t]), if_neg hnb, if_neg (by simp [hz])]
      rw [e] at hK
      exact iF (eq_b hz) (hJ6 _ _ (hK h4 S4))
    · have e : pushU c ⟨st, hd⟩ p = (⟨((st.wr c p hd).wr c (p + 8) 0).wr c (hd + 8) p, p⟩, 0) := by unfold pushU; rw [if_neg (by simp [t]), if_neg hnb, if_pos hz]
      rw [e] at hK
      obtain ⟨e1, e2⟩ := ok.resolve_left hz
      have el := rth_lt H e1 (by omega)
      obtain ⟨a0, a1, a2, a3⟩ := rs_cells V4 hY
      refine iT (ne_b hz) ⟨_, a0, _, a1, _, a2, _, _, _, a3, ?_⟩
      rw [wrap_add8 hh.1 (by omega)]
      exact ref_setw_ok (st := (st.wr c p hd).wr c (p + 8) 0) hp (th8 e1).2 S4.p fun h5 T5 => ⟨rfl, hJ6 _ _ (hK h5 (S4.trans T5))⟩
  by_cases hz : hd = 0
  · exact qF' (by simp [hz]) (good h1 V1 S1 (.inl hz))
  obtain ⟨a0, a1, a2, a3⟩ := rs_cells V1 hY
  refine qT (ne_b hz) ⟨_, a0, _, a1, _, a2, _, _, _, a3, ref3_There_ok hh S1.p fun h2 u2 => ⟨_, rfl, fun J9 hJ9 => ?_⟩⟩
  have V2 := V1.nx u2 fun _ e _ => e.elim
  have S2 := S1.trans (Stp.quiet S1.p u2)
  cases t3 : st.th c hd 16
  · exact pT rfl (hJ9 _ _ (bad h2 S2 hz (.inl t3)))
  · obtain ⟨a0, a1, a2, a3⟩ := rs_cells V2 hY
    refine pF rfl ⟨_, a0, _, a1, _, a2, _, _, _, a3, ref3_Prev_ok t3 S2.p fun h3 u3 => ⟨_, rfl, hJ9 _ _ ?_⟩⟩
    have V3 := V2.nx u3 fun _ e _ => e.elim
    have S3 := S2.trans (Stp.quiet S2.p u3)
    by_cases hr : st.rd c (hd + 8) = 0
    · rw [eq_b hr]; exact good h3 V3 S3 (.inr ⟨t3, hr⟩)
    · rw [ne_b hr]; exact bad h3 S3 hz (.inr hr)

theorem ref3_Remove_ok {hd p : Int} (hh : U64 hd) (hp : U64 p) (H : (rsR c mp mc Y st).P h)
    (hK : ∀ h', Stp h h' (rsR c mp mc Y st) (rsR c mp mc Y (removeU c ⟨st, hd⟩ p).1.st) → K (.tuple #[.int .u64 (removeU c ⟨st, hd⟩ p).1.hd, .int .i64 (removeU c ⟨st, hd⟩ p).2]) h') :
    CallV Try.prog w₀ F.croftref3_Remove [rsv c st.n mp mc, .int .u64 hd, .int .u64 p] h K := by
  refine croftref3_Remove.call ?_
  have hY := rY H
  have U0 : Upd NoB h (HP h c st.n mp mc) := HP_upd
  refine ⟨_, HP_0, _, HP_1, _, HP_2, _, _, _, HP_3, ?_⟩
  have S0 : Stp h (HP h c st.n mp mc) (rsR c mp mc Y st) (rsR c mp mc Y st) := Stp.quiet H U0
  refine ref3_There_ok hp S0.p fun h1 u1 => ⟨_, rfl, ?_⟩
  have V1 : Upd Y (HP h c st.n mp mc) h1 := u1.mono fun _ e _ => e.elim
  have S1 := S0.trans (Stp.quiet S0.p u1)
  cases t : st.th c p 16
  · have e : removeU c ⟨st, hd⟩ p = (⟨st, hd⟩, 4) := by simp [removeU, t]
    rw [e] at hK
    exact iT rfl (hK h1 S1)
  obtain ⟨t1, t2⟩ := th8 t
  have un := rrd_U64 H t1
  have ub := rrd_U64 H t2
  obtain ⟨a0, a1, a2, a3⟩ := rs_cells V1 hY
  refine iF rfl ⟨_, a0, _, a1, _, a2, _, _, _, a3, ref3_Next_ok t1 S1.p fun h2 u2 => ⟨_, rfl, ?_⟩⟩
  have V2 := V1.nx u2 fun _ e _ => e.elim
  have S2 := S1.trans (Stp.quiet S1.p u2)
  obtain ⟨a0, a1, a2, a3⟩ := rs_cells V2 hY
  refine ⟨_, a0, _, a1, _, a2, _, _, _, a3, ref3_Prev_ok t S2.p fun h3 u3 => ⟨_, rfl, ?_⟩⟩
  have V3 := V2.nx u3 fun _ e _ => e.elim
  have S3 := S2.trans (Stp.quiet S2.p u3)
  have bad : ∀ h4, Stp h h4 (rsR c mp mc Y st) (rsR c mp mc Y st) → sndU c ⟨st, hd⟩ p (st.rd c p) (st.rd c (p + 8)) = false → K (.tuple #[.int .u64 hd, .int .i64 8]) h4 := by
    intro h4 S4 g
    have e : removeU c ⟨st, hd⟩ p = (⟨st, hd⟩, 8) := by simp [removeU, t, g]
    rw [e] at hK
    exact hK h4 S4
  have eR : sndU c ⟨st, hd⟩ p (st.rd c p) (st.rd c (p + 8)) = true → removeU c ⟨st, hd⟩ p = (let y : LS := if st.rd c (p + 8) = 0 then ⟨st, st.rd c p⟩ else ⟨st.wr c (st.rd c (p + 8)) (st.rd c p), hd⟩
    ((if st.rd c p ≠ 0 then ⟨y.st.wr c (st.rd c p + 8) (st.rd c (p + 8)), y.hd⟩ else y), 0)) := fun g => by
    unfold removeU
    rw [if_neg (by simp [t]), if_neg (by simp [g])]
  generalize st.rd c p = nn at *
  generalize st.rd c (p + 8) = bb at *
  cases e1 : ((bb == 0) == (p == hd))
  · refine iT rfl (bad h3 S3 ?_)
    simp only [sndU, e1, Bool.false_and]
  refine iF rfl fun J5 hJ5 => ?_
  -- the writes
  have fin : ∀ h4, Upd Y (HP h c st.n mp mc) h4 → Stp h h4 (rsR c mp mc Y st) (rsR c mp mc Y st) → (bb == 0 || (st.th c bb 16 && st.rd c bb == p)) = true → (nn == 0 || (st.th c nn 16 && st.rd c (nn + 8) == p)) = true →
      (∀ J7 : List Value → Heap → Prop, (∀ (x1 : Int) (x3 : Addr) (x8 x9 : Int) (hJ7 : Heap), (∀ J8 : List Value → Heap → Prop, (∀ (x1 : Int) (hJ8 : Heap), K (.tuple #[.int .u64 x1, .int .i64 0]) hJ8 → J8 [.int .u64 x1] hJ8) →
        (((x8 != (0 : Int)) = true → ∃ n0 : Int, cellAt hJ7 x3 = some (.int .u64 n0) ∧ ∃ n1 : Int, cellAt hJ7 (x3.add 1) = some (.int .u64 n1) ∧ ∃ n2 : Int, cellAt hJ7 (x3.add 2) = some (.int .i64 n2) ∧ ∃ (n3p : Option Addr) (n3n n3c : Nat), cellAt hJ7 (x3.add 3) = some (.slice n3p n3n n3c) ∧
          CallV Try.prog w₀ F.croftref2_SetWord [.agg #[.int .u64 n0, .int .u64 n1, .int .i64 n2, .slice n3p n3n n3c], .int .u64 (IntKind.wrap .u64 (x8 + 8)), .int .u64 x9] hJ7 fun v73 h73 => v73 = .tuple #[] ∧ J8 [.int .u64 x1] h73) ∧ ((x8 != (0 : Int)) = false → J8 [.int .u64 x1] hJ7))) → J7 [.int .u64 x1, .pointer (some x3), .int .u64 x8, .int .u64 x9] hJ7) →
        (((bb == (0 : Int)) = true → J7 [.int .u64 nn, .pointer (some ⟨h.size, 0, none⟩), .int .u64 nn, .int .u64 bb] h4) ∧ ((bb == (0 : Int)) = false → ∃ n0 : Int, cellAt h4 ⟨h.size, 0, none⟩ = some (.int .u64 n0) ∧ ∃ n1 : Int, cellAt h4 ((⟨h.size, 0, none⟩ : Addr).add 1) = some (.int .u64 n1) ∧
          ∃ n2 : Int, cellAt h4 ((⟨h.size, 0, none⟩ : Addr).add 2) = some (.int .i64 n2) ∧ ∃ (n3p : Option Addr) (n3n n3c : Nat), cellAt h4 ((⟨h.size, 0, none⟩ : Addr).add 3) = some (.slice n3p n3n n3c) ∧
          CallV Try.prog w₀ F.croftref2_SetWord [.agg #[.int .u64 n0, .int .u64 n1, .int .i64 n2, .slice n3p n3n n3c], .int .u64 bb, .int .u64 nn] h4 fun v66 h66 => v66 = .tuple #[] ∧ J7 [.int .u64 hd, .pointer (some ⟨h.size, 0, none⟩), .int .u64 nn, .int .u64 bb] h66))) := by
    intro h4 V4 S4 e2 e3 J7 hJ7
    have g : sndU c ⟨st, hd⟩ p nn bb = true := by simp only [sndU, e1, e2, e3, Bool.and_self]
    have eR := eR g
    have core : ∀ (h5 : Heap) (y : LS), Upd Y (HP h c st.n mp mc) h5 → Stp h h5 (rsR c mp mc Y st) (rsR c mp mc Y y.st) → y.st.n = st.n → removeU c ⟨st, hd⟩ p = ((if nn ≠ 0 then ⟨y.st.wr c (nn + 8) bb, y.hd⟩ else y), 0) →
        J7 [.int .u64 y.hd, .pointer (some ⟨h.size, 0, none⟩), .int .u64 nn, .int .u64 bb] h5 := by
      intro h5 y V5 S5 hyn e
      refine hJ7 _ _ _ _ _ fun J8 hJ8 => ?_
      rw [e] at hK
      by_cases hz : nn = 0
      · rw [if_neg (by simp [hz])] at hK
        exact iF (eq_b hz) (hJ8 _ _ (hK h5 S5))
      · rw [if_pos hz] at hK
        have e3' : (st.th c nn 16 && st.rd c (nn + 8) == p) = true := by
          rw [show (nn == 0) = false from beq_false_of_ne hz, Bool.false_or] at e3; exact e3
        have tn : y.st.th c nn 16 = true := by
          have : st.th c nn 16 = true := by rw [Bool.and_eq_true] at e3'; exact e3'.1
          unfold Sto.th at this ⊢
          rw [hyn]; exact this
        have el := rth_lt S5.p tn (by omega)
        obtain ⟨a0, a1, a2, a3⟩ := rs_cells V5 hY
        refine iT (ne_b hz) ⟨_, a0, _, a1, _, a2, _, _, _, a3, ?_⟩
        rw [wrap_add8 un.1 (by omega), ← hyn]
        exact ref_setw_ok ub (th8 tn).2 S5.p fun h6 T6 => ⟨rfl, hJ8 _ _ (hK h6 (S5.trans T6))⟩
    by_cases hz : bb = 0
    · refine iT (by simp [hz]) (core h4 ⟨st, nn⟩ V4 S4 rfl ?_)
      rw [eR]; simp only [hz, if_true]
    · have e2' : (st.th c bb 16 && st.rd c bb == p) = true := by
        rw [show (bb == 0) = false from beq_false_of_ne hz, Bool.false_or] at e2; exact e2
      have tb : st.th c bb 16 = true := by rw [Bool.and_eq_true] at e2'; exact e2'.1
      obtain ⟨a0, a1, a2, a3⟩ := rs_cells V4 hY
      refine iF (beq_false_of_ne hz) ⟨_, a0, _, a1, _, a2, _, _, _, a3, ref_setw_ok un (th8 tb).1 S4.p fun h5 T5 => ⟨rfl, ?_⟩⟩
      refine core h5 ⟨st.wr c bb nn, hd⟩ (V4.nx T5.u fun _ e _ => e) (S4.trans T5) rfl ?_
      rw [eR]; simp only [hz, if_false]
  -- the second look
  have second : ∀ h4, Upd Y (HP h c st.n mp mc) h4 → Stp h h4 (rsR c mp mc Y st) (rsR c mp mc Y st) → (bb == 0 || (st.th c bb 16 && st.rd c bb == p)) = true → J5 false h4 := by
    intro h4 V4 S4 e2
    refine hJ5 _ _ (iF rfl fun J6 hJ6 => ?_)
    have bad2 : ∀ h5, Stp h h5 (rsR c mp mc Y st) (rsR c mp mc Y st) → (nn == 0 || (st.th c nn 16 && st.rd c (nn + 8) == p)) = false → J6 true h5 := fun h5 S5 e3 =>
      hJ6 _ _ (iT rfl (bad h5 S5 (by simp only [sndU, e1, e2, e3, Bool.and_false])))
    by_cases hz : nn = 0
    · exact qF' (by simp [hz]) (hJ6 _ _ (iF rfl (fin h4 V4 S4 e2 (by simp [hz]))))
    have hz' : (nn == 0) = false := beq_false_of_ne hz
    obtain ⟨a0, a1, a2, a3⟩ := rs_cells V4 hY
    refine qT (ne_b hz) ⟨_, a0, _, a1, _, a2, _, _, _, a3, ref3_There_ok un S4.p fun h5 u5 => ⟨_, rfl, fun J12 hJ12 => ?_⟩⟩
    have V5 := V4.nx u5 fun _ e _ => e.elim
    have S5 := S4.trans (Stp.quiet S4.p u5)
    cases t3 : st.th c nn 16
    · exact pT rfl (hJ12 _ _ (bad2 h5 S5 (by rw [hz', t3]; rfl)))
    · obtain ⟨a0, a1, a2, a3⟩ := rs_cells V5 hY
      refine pF rfl ⟨_, a0, _, a1, _, a2, _, _, _, a3, ref3_Prev_ok t3 S5.p fun h6 u6 => ⟨_, rfl, hJ12 _ _ ?_⟩⟩
      have V6 := V5.nx u6 fun _ e _ => e.elim
      have S6 := S5.trans (Stp.quiet S5.p u6)
      by_cases hr : st.rd c (nn + 8) = p
      · rw [eq_b hr]; exact hJ6 _ _ (iF rfl (fin h6 V6 S6 e2 (by simp [t3, hr])))
      · rw [ne_b hr]; exact bad2 h6 S6 (by rw [hz', t3, show (st.rd c (nn + 8) == p) = false from beq_false_of_ne hr]; rfl)
  have bad1 : ∀ h5, Stp h h5 (rsR c mp mc Y st) (rsR c mp mc Y st) → (bb == 0 || (st.th c bb 16 && st.rd c bb == p)) = false → J5 true h5 := fun h5 S5 e2 =>
    hJ5 _ _ (iT rfl (bad h5 S5 (by simp only [sndU, e1, e2, Bool.and_false, Bool.false_and])))
  by_cases hz : bb = 0
  · exact qF' (by simp [hz]) (second h3 V3 S3 (by simp [hz]))
  have hz' : (bb == 0) = false := beq_false_of_ne hz
  obtain ⟨a0, a1, a2, a3⟩ := rs_cells V3 hY
  refine qT (ne_b hz) ⟨_, a0, _, a1, _, a2, _, _, _, a3, ref3_There_ok ub S3.p fun h4 u4 => ⟨_, rfl, fun J15 hJ15 => ?_⟩⟩
  have V4 := V3.nx u4 fun _ e _ => e.elim
  have S4 := S3.trans (Stp.quiet S3.p u4)
  cases t3 : st.th c bb 16
  · exact pT rfl (hJ15 _ _ (bad1 h4 S4 (by rw [hz', t3]; rfl)))
  · obtain ⟨a0, a1, a2, a3⟩ := rs_cells V4 hY
    refine pF rfl ⟨_, a0, _, a1, _, a2, _, _, _, a3, ref3_Next_ok (th8 t3).1 S4.p fun h5 u5 => ⟨_, rfl, hJ15 _ _ ?_⟩⟩
    have V5 := V4.nx u5 fun _ e _ => e.elim
    have S5 := S4.trans (Stp.quiet S4.p u5)
    by_cases hr : st.rd c bb = p
    · rw [eq_b hr]; exact second h5 V5 S5 (by simp [t3, hr])
    · rw [ne_b hr]; exact bad1 h5 S5 (by rw [hz', t3, show (st.rd c bb == p) = false from beq_false_of_ne hr]; rfl)

theorem remove_ne {x : LS} {p : Int} (h : (removeU c x p).2 ≠ 0) : (removeU c x p).1 = x := by
  unfold removeU at h ⊢
  split
  · rfl
  · rename_i h1
    rw [if_neg h1] at h
    split
    · rfl
    · rename_i h2
      rw [if_neg h2] at h
      exact absurd rfl h

theorem ref3_Pop_ok {hd : Int} (hh : U64 hd) (H : (rsR c mp mc Y st).P h)
    (hK : ∀ h', Stp h h' (rsR c mp mc Y st) (rsR c mp mc Y (popU c ⟨st, hd⟩).1.st) → K (.tuple #[.int .u64 (popU c ⟨st, hd⟩).1.hd, .int .u64 (popU c ⟨st, hd⟩).2.1, .int .i64 (popU c ⟨st, hd⟩).2.2]) h') :
    CallV Try.prog w₀ F.croftref3_Pop [rsv c st.n mp mc, .int .u64 hd] h K := by
  refine croftref3_Pop.call ?_
  have U0 : Upd NoB h (HP h c st.n mp mc) := HP_upd
  have S0 : Stp h (HP h c st.n mp mc) (rsR c mp mc Y st) (rsR c mp mc Y st) := Stp.quiet H U0
  by_cases hz : hd = 0
  · have e : popU c ⟨st, hd⟩ = (⟨st, hd⟩, 0, 9) := by simp [popU, hz]
    rw [e] at hK
    refine iT (by simp [hz]) ?_
    have := hK _ S0
    rw [hz] at this
    exact this
  refine iF (beq_false_of_ne hz) ⟨_, HP_0, _, HP_1, _, HP_2, _, _, _, HP_3, ref3_Remove_ok hh hh S0.p fun h1 T1 => ⟨_, _, rfl, ?_⟩⟩
  have S1 := S0.trans T1
  by_cases he : (removeU c ⟨st, hd⟩ hd).2 = 0
  · have e : popU c ⟨st, hd⟩ = ((removeU c ⟨st, hd⟩ hd).1, hd, 0) := by simp [popU, hz, he]
    rw [e] at hK
    exact iF (eq_b he) (hK h1 S1)
  · have e : popU c ⟨st, hd⟩ = ((removeU c ⟨st, hd⟩ hd).1, 0, (removeU c ⟨st, hd⟩ hd).2) := by simp [popU, hz, he]
    rw [e] at hK
    refine iT (ne_b he) ?_
    have := hK h1 S1
    rw [remove_ne he] at this
    exact this
end
end Go.Proofs.Ytfijahblggnbbaa
