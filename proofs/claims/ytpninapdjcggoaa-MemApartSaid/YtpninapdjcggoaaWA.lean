/- Chapter 2's laws: which bytes are there; the examples. No condition. -/
import Derived.Test.YtpninapdjcggoaaW9
set_option linter.unusedSimpArgs false
set_option linter.unusedVariables false
namespace Go.Proofs.Ytpninapdjcggoaa
open Go.V Classical

section
variable {w₀ : World} {h : Heap} {s n : Nat} {c : Cfg} {M : Nat → Int} {Z : Nat → Prop} {K : Value → Heap → Prop}

/-- The code of a call on q bytes from p on. -/
noncomputable def code (c : Cfg) (n : Nat) (p q : Int) : Int := if There c n p q then 0 else 4

theorem Fill_w {p q v : Int} (hp : 0 ≤ p ∧ p < 18446744073709551616) (hq : 0 ≤ q ∧ q < 18446744073709551616) (hv : 0 ≤ v ∧ v < 256) (H : Sp h s c n M Z)
    (hK : ∀ (h' : Heap) (M' : Nat → Int), Upd Z h h' → Sp h' s c n M' Z → K (.int .i64 (code c n p q)) h') : CallV Try.prog w₀ F.mem_Space_Fill [.pointer (some ⟨s, 0, none⟩), .int .u64 p, .int .u64 q, .int .u8 v] h K := by
  refine mem_Fill_ok hp hq hv H (fun t h' u S => ?_) (fun t h' u => ?_)
  · have := hK h' _ u S; rw [code, if_pos t] at this; exact this
  · have := hK h' _ (u.mono fun _ e _ => e.elim) (H.upd u fun _ _ => id); rw [code, if_neg t] at this; exact this

theorem Copy_w {p q k : Int} (hp : 0 ≤ p ∧ p < 18446744073709551616) (hq : 0 ≤ q ∧ q < 18446744073709551616) (hk : 0 ≤ k ∧ k < 18446744073709551616) (H : Sp h s c n M Z)
    (hK : ∀ (h' : Heap) (M' : Nat → Int), Upd Z h h' → Sp h' s c n M' Z → K (.int .i64 (if There c n p k ∧ There c n q k then 0 else 4)) h') : CallV Try.prog w₀ F.mem_Space_Copy [.pointer (some ⟨s, 0, none⟩), .int .u64 p, .int .u64 q, .int .u64 k] h K := by
  refine mem_Copy_ok hp hq hk H (fun t t' h' u S => ?_) (fun t h' u => ?_)
  · have := hK h' _ u S; rw [if_pos ⟨t, t'⟩] at this; exact this
  · have := hK h' _ (u.mono fun _ e _ => e.elim) (H.upd u fun _ _ => id); rw [if_neg t] at this; exact this

theorem Read_w {p q : Int} (hp : 0 ≤ p ∧ p < 18446744073709551616) (hq : 0 ≤ q ∧ q < 18446744073709551616) (H : Sp h s c n M Z)
    (hK : ∀ (h' : Heap) (b : Option Addr) (l k : Nat), Upd NoB h h' → K (.tuple #[.slice b l k, .int .i64 (code c n p q)]) h') : CallV Try.prog w₀ F.mem_Space_Read [.pointer (some ⟨s, 0, none⟩), .int .u64 p, .int .u64 q] h K := by
  refine mem_Read_ok hp hq H (fun t h' bb u _ _ => ?_) (fun t h' u => ?_)
  · have := hK h' (some ⟨bb, 0, none⟩) q.toNat q.toNat u; rw [code, if_pos t] at this; exact this
  · have := hK h' none 0 0 u; rw [code, if_neg t] at this; exact this

theorem Write_w {p : Int} {m cap : Nat} {g : Nat → Int} {q : Option Addr} (hp : 0 ≤ p ∧ p < 18446744073709551616) (hm : m < 18446744073709551616) (hmc : m ≤ cap) (H : Sp h s c n M Z)
    (hr : Row h q m (fun i => .int .u8 (g i))) (hg : ∀ x, x < m → 0 ≤ g x ∧ g x < 256) (hqZ : m = 0 ∨ Off Z q)
    (hK : ∀ (h' : Heap) (M' : Nat → Int), Upd Z h h' → Sp h' s c n M' Z → K (.int .i64 (code c n p m)) h') : CallV Try.prog w₀ F.mem_Space_Write [.pointer (some ⟨s, 0, none⟩), .int .u64 p, .slice q m cap] h K := by
  refine mem_Write_ok hp hm hmc H hr hg hqZ (fun t h' u S => ?_) (fun t h' u => ?_)
  · have := hK h' _ u S; rw [code, if_pos t] at this; exact this
  · have := hK h' _ (u.mono fun _ e _ => e.elim) (H.upd u fun _ _ => id); rw [code, if_neg t] at this; exact this

theorem SetWord_w {p v : Int} (hp : 0 ≤ p ∧ p < 18446744073709551616) (hv : 0 ≤ v ∧ v < 18446744073709551616) (H : Sp h s c n M Z)
    (hK : ∀ (h' : Heap) (M' : Nat → Int), Upd Z h h' → Sp h' s c n M' Z → K (.int .i64 (code c n p 8)) h') : CallV Try.prog w₀ F.mem_Space_SetWord [.pointer (some ⟨s, 0, none⟩), .int .u64 p, .int .u64 v] h K := by
  refine mem_SetWord_ok hp hv H (fun t h' u S => ?_) (fun t h' u => ?_)
  · have := hK h' _ u S; rw [code, if_pos t] at this; exact this
  · have := hK h' _ (u.mono fun _ e _ => e.elim) (H.upd u fun _ _ => id); rw [code, if_neg t] at this; exact this

theorem Word_w {p : Int} (hp : 0 ≤ p ∧ p < 18446744073709551616) (H : Sp h s c n M Z)
    (hK : ∀ (h' : Heap) (v : Int), Upd NoB h h' → K (.tuple #[.int .u64 v, .int .i64 (code c n p 8)]) h') : CallV Try.prog w₀ F.mem_Space_Word [.pointer (some ⟨s, 0, none⟩), .int .u64 p] h K := by
  refine mem_Word_ok hp H (fun t h' u => ?_) (fun t h' u => ?_)
  · have := hK h' (wrd (fun i => M ((p - c.base).toNat + i)) 8) u; rw [code, if_pos t] at this; exact this
  · have := hK h' 0 u; rw [code, if_neg t] at this; exact this

theorem setword_ok {p : Int} (hp : 0 ≤ p ∧ p < 18446744073709551616) (H : Sp h s c n M Z)
    (hK : ∀ (h' : Heap) (M' : Nat → Int), Upd Z h h' → Sp h' s c n M' Z → K (.int .i64 (code c n p 8)) h') : CallV Try.prog w₀ F.croftlaw2_setword [.pointer (some ⟨s, 0, none⟩), .int .u64 p] h K := by
  refine croftlaw2_setword.call ?_
  refine SetWord_w hp (by decide) H fun h1 M1 u1 S1 => ⟨_, rfl, ?_⟩
  refine Word_w hp S1 fun h2 v u2 => ⟨_, _, rfl, iF (by simp) ?_⟩
  exact hK h2 M1 (u1.nx u2 fun _ e _ => e.elim) (S1.upd u2 fun _ _ => id)

theorem MemThere_law {w : World} {r p q : Int} (hr : (Lit.int .i64 r).wf = true) (hp : (Lit.int .u64 p).wf = true) (hq : (Lit.int .u64 q).wf = true) :
    CallV Try.prog w F.croftlaw2_MemThere [.int .i64 r, .int .u64 p, .int .u64 q] w.heap fun v h' => v = .bool true ∧ Upd NoB w.heap h' := by
  have hr := i64_wf hr
  have hp := u64_wf hp
  have hq := u64_wf hq
  refine croftlaw2_MemThere.call ?_
  unfold croftlaw2_MemThere.vc
  refine awake_ok fun h1 u1 => ⟨true, rfl, iF rfl ⟨by decide, ?_⟩⟩
  intro J k
  have main : ∀ m : Nat, m ≤ 3 → J [.int .u64 p, .int .u64 q, .int .i64 (m : Int)] h1 := by
    intro m hm
    apply k
    refine grown_ok hm fun h2 s Z u2 hz S2 => ⟨_, rfl, iF rfl ?_⟩
    have hz' : ∀ b, Z b → w.heap.size ≤ b := fun b hb => Nat.le_trans u1.1 (hz b hb)
    have nz : ∀ {Z' : Nat → Prop} {h1 h2 : Heap}, (∀ b, Z' b → w.heap.size ≤ b) → Upd NoB w.heap h1 → Upd Z' h1 h2 → Upd NoB w.heap h2 := fun hz' u u' => u.nx u' fun b e hb => absurd (hz' b e) (by omega)
    have u02 : Upd NoB w.heap h2 := u1.nx u2 fun _ e _ => e
    have esz : IntKind.wrap .u64 ((IntKind.wrap .u64 (m : Int)) * (4096 : Int)) = ((m * 4096 : Nat) : Int) := by rw [IntKind.wrap_u64 (m : Int), IntKind.wrap_u64]; omega
    rw [esz]
    have tdef : There G3 m p q ↔ q = 0 ∨ (1048576 ≤ p ∧ p - 1048576 + q ≤ ((m * 4096 : Nat) : Int)) := Iff.rfl
    intro J4 k4
    have kb : J4 (decide (There G3 m p q)) h2 := by
      apply k4
      intro J5 k5
      have fin : J5 [.int .u64 p, .int .u64 q, .pointer (some ⟨s, 0, none⟩), .int .u64 1048576, .bool (decide (There G3 m p q)), .int .i64 (code G3 m p q)] h2 := by
        apply k5
        refine Read_w hp hq S2 fun h3 b l lc u3 => ⟨_, _, _, _, rfl, ?_⟩
        have S3 := S2.upd u3 fun _ _ => id
        have u03 := nz (Z' := NoB) (fun _ e => e.elim) u02 u3
        refine Fill_w hp hq (by decide) S3 fun h4 M4 u4 S4 => ⟨_, rfl, ?_⟩
        have u04 := nz hz' u03 u4
        refine Copy_w hp (by decide) (by decide) S4 fun h5 M5 u5 S5 => ⟨_, rfl, ?_⟩
        have u05 := nz hz' u04 u5
        have t0 : (if There G3 m p 0 ∧ There G3 m 1048576 0 then (0 : Int) else 4) = 0 := if_pos ⟨.inl rfl, .inl rfl⟩
        rw [t0]
        intro J9 k9
        refine pF (by simp) (k9 _ _ ?_)
        intro J10 k10
        refine pF (by simp) (k10 _ _ (iF rfl ?_))
        have rest : ∀ (hx : Heap) (Mx : Nat → Int) (J13 : Bool → Heap → Prop), Upd NoB w.heap hx → Sp hx s G3 m Mx Z →
            (∀ (b113 : Bool) (h113 : Heap), ((b113 = true → (fun (v : Value) h' => v = .bool true ∧ Upd NoB w.heap h') (.bool false) h113) ∧ (b113 = false → (∀ J14 : Bool → Heap → Prop, (∀ (b125 : Bool) (h125 : Heap), ((b125 = true → (fun (v : Value) h' => v = .bool true ∧ Upd NoB w.heap h') (.bool false) h125) ∧ (b125 = false → (∀ J15 : Bool → Heap → Prop, (∀ (b134 : Bool) (h134 : Heap), (fun (v : Value) h' => v = .bool true ∧ Upd NoB w.heap h') (.bool b134) h134 → J15 b134 h134) → ((q != (8 : Int)) = false → (CallV Try.prog w F.croftlaw2_setword [(.pointer (some ⟨s, 0, none⟩)), (.int .u64 p)] h125 fun (v131 : Value) (h131 : Heap) => ∃ r131 : Int, v131 = (.int .i64 r131) ∧ J15 (r131 == code G3 m p q) h131)) ∧ ((q != (8 : Int)) = (!false) → J15 true h125)))) → J14 b125 h125) → ((decide (q ≤ (10000 : Int))) = true → (0 ≤ (IntKind.wrap .i64 q) ∧ (IntKind.wrap .i64 q) ≤ (IntKind.wrap .i64 q) ∧ (IntKind.wrap .i64 q) * (1 : Nat) ≤ 2 ^ 48 ∧ (CallV Try.prog w F.mem_Space_Write [(.pointer (some ⟨s, 0, none⟩)), (.int .u64 p), (.slice (some (⟨h113.size, 0, none⟩ : Addr)) (Int.toNat (IntKind.wrap .i64 q)) (Int.toNat (IntKind.wrap .i64 q)))] (Array.push h113 (.cells (List.toArray (zrow [(.int .u8 (0 : Int))] (Int.toNat (IntKind.wrap .i64 q)))) T.T_uint8)) fun (v122 : Value) (h122 : Heap) => ∃ r122 : Int, v122 = (.int .i64 r122) ∧ J14 (r122 != code G3 m p q) h122))) ∧ ((decide (q ≤ (10000 : Int))) = (!true) → J14 false h113)))) → J13 b113 h113) →
            J13 false hx := by
          intro hx Mx J13 ux Sx k13
          refine k13 _ _ (iF rfl ?_)
          intro J14 k14
          have last : ∀ (hy : Heap) (My : Nat → Int), Upd NoB w.heap hy → Sp hy s G3 m My Z → J14 false hy := by
            intro hy My uy Sy
            refine k14 _ _ (iF rfl ?_)
            intro J15 k15
            by_cases h8 : q = 8
            · refine pF (by simp [h8]) ?_
              refine setword_ok hp Sy fun h6 M6 u6 S6 => ⟨_, rfl, k15 _ _ ⟨?_, nz hz' uy u6⟩⟩
              rw [h8]
              simp
            · exact pT (by simp [h8]) (k15 _ _ ⟨rfl, uy⟩)
          by_cases hb : q ≤ 10000
          · refine qT (by simp [hb]) ?_
            have ew : IntKind.wrap .i64 q = q := by rw [IntKind.wrap_i64]; omega
            rw [ew]
            have tq : ((q.toNat : Nat) : Int) = q := by omega
            refine ⟨hq.1, Int.le_refl _, by omega, ?_⟩
            let hB : Heap := Array.push hx (.cells (List.toArray (zrow [(.int .u8 (0 : Int))] (Int.toNat q))) T.T_uint8)
            have uB : Upd NoB hx hB := push_upd _ _ _
            have B : Blk hB hx.size q.toNat (fun _ => .int .u8 0) := Blk.new' _ _ _ q.toNat (fun _ => .int .u8 0) (by simp [zrow_length]) fun j hj => by
              have := zrow_get [(.int .u8 (0 : Int))] q.toNat j (by simpa using hj)
              simp only [List.length_cons, List.length_nil, Nat.zero_add, Nat.mod_one, List.getElem?_cons_zero] at this
              simpa using this
            have SB := Sx.upd uB fun _ _ => id
            refine Write_w (g := fun _ => 0) hp (by omega) (Nat.le_refl _) SB ((B.row 0 q.toNat (by omega)).congr fun i hi => rfl) (fun _ _ => by decide) (.inr fun a ha hb => ?_) fun h6 M6 u6 S6 => ⟨_, rfl, ?_⟩
            · cases ha
              exact absurd (Sx.lt _ hb) (Nat.lt_irrefl _)
            · rw [tq]
              have : (code G3 m p q != code G3 m p q) = false := by simp
              rw [this]
              exact last h6 M6 (nz hz' (ux.nx uB fun _ e _ => e) u6) S6
          · exact qF' (by simp [hb]) (last hx Mx ux Sx)
        intro J11 k11
        by_cases t : There G3 m p q
        · have tt : decide (There G3 m p q) = true := by simp [t]
          rw [tt]
          refine qT rfl (k11 _ _ ?_)
          intro J12 k12
          have go : ∀ (hy : Heap) (My : Nat → Int), Upd NoB w.heap hy → Sp hy s G3 m My Z → J12 false hy := by
            intro hy My uy Sy
            refine k12 _ _ ?_
            intro J13 k13
            refine pF rfl ?_
            intro J19 k19
            exact qF' (by simp [t]) (k19 _ _ (rest hy My J13 uy Sy k13))
          by_cases hpos : q > 0
          · refine qT (by simp [hpos]) ?_
            refine Copy_w hp hp hq S5 fun h6 M6 u6 S6 => ⟨_, rfl, ?_⟩
            rw [if_pos ⟨t, t⟩]
            exact go h6 M6 (nz hz' u05 u6) S6
          · exact qF' (by simp; omega) (go h5 M5 u05 S5)
        · have tt : decide (There G3 m p q) = false := by simp [t]
          rw [tt]
          refine qF' rfl (k11 _ _ ?_)
          intro J12 k12
          refine qF' rfl (k12 _ _ ?_)
          intro J13 k13
          refine pF rfl ?_
          intro J19 k19
          refine qT (by simp [t]) ?_
          refine Copy_w hp (by decide) hq S5 fun h6 M6 u6 S6 => ⟨_, rfl, ?_⟩
          rw [if_neg fun x => t x.1]
          intro J21 k21
          refine pF rfl ?_
          refine Copy_w (by decide) hp hq S6 fun h7 M7 u7 S7 => ⟨_, rfl, ?_⟩
          rw [if_neg fun x => t x.2]
          exact k21 _ _ (k19 _ _ (rest h7 M7 J13 (nz hz' (nz hz' u05 u6) u7) S7 k13))
      by_cases t : There G3 m p q
      · refine iT (by simp [t]) ?_
        rw [code, if_pos t] at fin
        exact fin
      · refine iF (by simp [t]) ?_
        rw [code, if_neg t] at fin
        exact fin
    by_cases hq0 : q = 0
    · refine pT (by simp [hq0]) ?_
      have : decide (There G3 m p q) = true := by rw [decide_eq_true_eq, tdef]; exact .inl hq0
      rw [this] at kb
      exact kb
    · refine pF (by simp [hq0]) ?_
      have key : ∀ b : Bool, (b = true ↔ There G3 m p q) → J4 b h2 := fun b hb => by
        have : decide (There G3 m p q) = b := by rw [Bool.eq_iff_iff, decide_eq_true_eq, hb]
        rw [← this]; exact kb
      intro J24 k24
      by_cases c1 : 1048576 ≤ p
      · refine qT (by simp [c1]) (k24 _ _ ?_)
        intro J25 k25
        by_cases c2 : q ≤ ((m * 4096 : Nat) : Int)
        · refine qT (by simpa using c2) (k25 _ _ (key _ ?_))
          have e1 : IntKind.wrap .u64 (p - 1048576) = p - 1048576 := by rw [IntKind.wrap_u64]; omega
          have e2 : IntKind.wrap .u64 (((m * 4096 : Nat) : Int) - q) = ((m * 4096 : Nat) : Int) - q := by rw [IntKind.wrap_u64]; omega
          rw [e1, e2, decide_eq_true_eq, tdef]
          omega
        · refine qF' (by simpa using c2) (k25 _ _ (key _ ?_))
          rw [tdef]
          constructor
          · intro e; cases e
          · omega
      · refine qF' (by simpa using c1) (k24 _ _ ?_)
        intro J25 k25
        refine qF' rfl (k25 _ _ (key _ ?_))
        rw [tdef]
        constructor
        · intro e; cases e
        · omega
  have hb : -3 ≤ Int.tmod r 4 ∧ Int.tmod r 4 ≤ 3 := by
    rcases Int.le_total 0 r with h0 | h0
    · rw [Int.tmod_eq_emod_of_nonneg h0]; omega
    · have e : Int.tmod r 4 = - Int.tmod (-r) 4 := by rw [Int.neg_tmod, Int.neg_neg]
      rw [e, Int.tmod_eq_emod_of_nonneg (by omega)]; omega
  by_cases c : Int.tmod r 4 < 0
  · refine iT (by simp [c]) ?_
    have := main (- Int.tmod r 4).toNat ?_
    · have e : IntKind.wrap .i64 ((0 : Int) - Int.tmod r 4) = ((- Int.tmod r 4).toNat : Int) := by
        rw [IntKind.wrap_i64]; omega
      rw [e]
      exact this
    · omega
  · refine iF (by simpa using c) ?_
    have := main (Int.tmod r 4).toNat ?_
    · have e : Int.tmod r 4 = ((Int.tmod r 4).toNat : Int) := by omega
      rw [e]
      exact this
    · omega

instance thereDec {c : Cfg} {n : Nat} {p q : Int} : Decidable (There c n p q) := by
  unfold There
  infer_instance

/-- The examples' space. -/
def GK : Cfg := ⟨65536, 2, 1⟩
theorem GK_good : GK.Good := good_iff.2 (by decide)

theorem MemKnown_law {w : World} : CallV Try.prog w F.croftlaw2_MemKnown [] w.heap fun v h' => v = .bool true ∧ Upd NoB w.heap h' := by
  refine croftlaw2_MemKnown.call ?_
  unfold croftlaw2_MemKnown.vc
  refine awake_ok fun h1 u1 => ⟨true, rfl, iF rfl ?_⟩
  intro J3 k3 L hL
  let arr : Array Value := #[(.int .u64 (4096 : Int)), (.int .i64 (2 : Int)), (.int .i64 (1 : Int)), (.int .u64 (0 : Int)), (.int .i64 (1 : Int)), (.int .i64 (0 : Int)), (.int .u64 (65536 : Int)), (.int .i64 (65 : Int)), (.int .i64 (0 : Int)), (.int .u64 (9223372036854775808 : Int)), (.int .i64 (1 : Int)), (.int .i64 (0 : Int))]
  let hb : Heap := Array.push h1 (.cells arr T.T_api_Config)
  have ub : Upd NoB h1 hb := push_upd _ _ _
  have B : Blk hb h1.size 12 (fun j => arr.getD j undef) := Blk.new h1 arr T.T_api_Config
  have step : ∀ (i : Nat) (a b d : Int), i < 4 → 0 ≤ a ∧ a < 18446744073709551616 → arr.getD (i * 3) undef = .int .u64 a → arr.getD (i * 3 + 1) undef = .int .i64 b → arr.getD (i * 3 + 2) undef = .int .i64 d → ¬ Cfg.Good ⟨a, b, d⟩ →
      (∀ hx : Heap, Upd NoB hb hx → L [.slice (some ⟨h1.size, 0, none⟩) 4 4, .int .i64 ((i + 1 : Nat) : Int)] hx) → ∀ hx : Heap, Upd NoB hb hx → L [.slice (some ⟨h1.size, 0, none⟩) 4 4, .int .i64 (i : Int)] hx := by
    intro i a b d hi ha e0 e1 e2 ng next hx ux
    have Bx := B.upd ux id
    have t1 : Int.toNat (i : Int) = i := by omega
    have e3 : IntKind.wrap .i64 ((i : Int) + 1) = ((i + 1 : Nat) : Int) := by rw [IntKind.wrap_i64]; omega
    refine hL _ _ _ _ _ (iT (by simp; omega) ⟨_, rfl, by omega, by omega, a, ?_, b, ?_, d, ?_, ?_⟩)
    · rw [t1, add_mk, Nat.zero_add, Bx.cell (by omega), e0]
    · rw [t1, add_mk, add_mk, Nat.zero_add, Bx.cell (by omega), e1]
    · rw [t1, add_mk, add_mk, Nat.zero_add, Bx.cell (by omega), e2]
    · rw [e3]
      exact mem_New_ok ha (fun _ h2 u2 => ⟨_, _, rfl, iF rfl (next h2 (ux.nx u2 fun _ e _ => e))⟩) (fun g => absurd g ng)
  refine step 0 4096 2 1 (by decide) (by decide) rfl rfl rfl (fun g => absurd (good_iff.1 g) (by decide)) ?_ hb (Upd.refl _ _)
  refine step 1 0 1 0 (by decide) (by decide) rfl rfl rfl (fun g => absurd (good_iff.1 g) (by decide)) ?_
  refine step 2 65536 65 0 (by decide) (by decide) rfl rfl rfl (fun g => absurd (good_iff.1 g) (by decide)) ?_
  refine step 3 9223372036854775808 1 0 (by decide) (by decide) rfl rfl rfl (fun g => absurd (good_iff.1 g) (by decide)) ?_
  intro h2 u2
  refine hL _ _ _ _ _ (iF (by decide) (k3 _ ?_))
  have u02 : Upd NoB w.heap h2 := (u1.nx ub fun _ e _ => e).nx u2 fun _ e _ => e
  refine mem_New_ok (by decide) (fun hn => absurd GK_good hn) fun _ h3 s u3 hs S3 => ⟨_, _, rfl, iF rfl ?_⟩
  have u03 := u02.nx u3 fun _ e _ => e
  have S3 : Sp h3 s GK 0 (fun _ => 0) (fun x => x = s) := S3
  have sz : ∀ {Z' : Nat → Prop} {ha hb : Heap}, (∀ b, Z' b → w.heap.size ≤ b) → Upd NoB w.heap ha → Upd Z' ha hb → Upd NoB w.heap hb := fun hz' u u' => u.nx u' fun b e hb => absurd (hz' b e) (by omega)
  have grz : ∀ {Z' : Nat → Prop} {ha hb : Heap}, (∀ b, Z' b → w.heap.size ≤ b) → Upd NoB w.heap ha → ∀ b, Gr Z' ha hb b → w.heap.size ≤ b := fun hz' u b hb => hb.elim (hz' b) fun e => Nat.le_trans u.1 e.1
  have z0 : ∀ b, (fun x => x = s) b → w.heap.size ≤ b := fun b e => by rw [show b = s from e]; exact Nat.le_trans u02.1 hs
  have nz : ∀ b, NoB b → w.heap.size ≤ b := fun _ e => e.elim
  refine mem_Byte_ok (by decide) S3 (fun t => absurd t (by decide)) fun _ h4 u4 => ⟨_, _, rfl, ?_⟩
  refine mem_Read_ok (by decide) (by decide) (S3.upd u4 fun _ _ => id) (fun _ h5 bb u5 _ _ => ⟨_, _, _, _, rfl, ?_⟩) fun t => absurd (Or.inl rfl) t
  have S5 := (S3.upd u4 fun _ _ => id).upd u5 fun _ _ => id
  have u05 := sz nz (sz nz u03 u4) u5
  intro J7 k7
  refine pF rfl (k7 _ _ ?_)
  intro J8 k8
  refine pF rfl (k8 _ _ ?_)
  intro J9 k9
  refine pF rfl ?_
  refine mem_End_ok S5 ⟨_, rfl, k9 _ _ (iF (by decide) ?_)⟩
  refine mem_Commit_ok S5 (fun _ => ⟨_, _, rfl, ?_⟩) fun e => by cases e
  refine mem_Commit_ok S5 (fun e => ?_) fun _ _ h6 u6 S6 => ⟨_, _, rfl, ?_⟩
  · exact absurd e (by decide)
  have u06 := sz z0 u05 u6
  have z6 := grz (hb := h6) z0 u05
  refine mem_Commit_ok S6 (fun e => ?_) fun _ _ h7 u7 S7 => ⟨_, _, rfl, ?_⟩
  · exact absurd e (by decide)
  have u07 := sz z6 u06 u7
  have z7 := grz (hb := h7) z6 u06
  have S7 : Sp h7 s GK 2 (fun _ => 0) _ := S7.congr fun o ho => by split <;> first | rfl | (split <;> rfl)
  refine mem_Commit_ok S7 (fun _ => ⟨_, _, rfl, ?_⟩) fun _ e => absurd e (by decide)
  intro J14 k14
  refine pF rfl (k14 _ _ ?_)
  intro J15 k15
  refine pF rfl (k15 _ _ ?_)
  intro J16 k16
  refine pF (by decide) (k16 _ _ ?_)
  intro J17 k17
  refine pF rfl (k17 _ _ ?_)
  intro J18 k18
  refine pF (by decide) (k18 _ _ ?_)
  intro J19 k19
  refine pF rfl ?_
  refine mem_SetWord_ok (by decide) (by decide) S7 (fun _ h8 u8 S8 => ⟨_, rfl, k19 _ _ (iF rfl ?_)⟩) fun t => absurd (show There GK 2 73725 8 by decide) t
  have u08 := sz z7 u07 u8
  refine mem_Byte_ok (by decide) S8 (fun _ h9 u9 => ⟨_, _, rfl, ?_⟩) fun t => absurd (show There GK 2 73727 1 by decide) t
  have S9 := S8.upd u9 fun _ _ => id
  refine mem_Word_ok (by decide) S9 (fun _ hA uA => ⟨_, _, rfl, ?_⟩) fun t => absurd (show There GK 2 73728 8 by decide) t
  have SA := S9.upd uA fun _ _ => id
  refine mem_Word_ok (by decide) SA (fun t => absurd t (by decide)) fun _ hB uB => ⟨_, _, rfl, ?_⟩
  have SB := SA.upd uB fun _ _ => id
  have u0B := sz nz (sz nz (sz nz u08 u9) uA) uB
  intro J23 k23
  refine pF (by decide +kernel) (k23 _ _ ?_)
  intro J24 k24
  refine pF rfl (k24 _ _ ?_)
  intro J25 k25
  refine pF (by decide +kernel) (k25 _ _ ?_)
  intro J26 k26
  refine pF rfl (k26 _ _ ?_)
  intro J27 k27
  refine pF rfl ?_
  refine mem_Fill_ok (by decide) (by decide) (by decide) SB (fun _ hC uC SC => ⟨_, rfl, k27 _ _ ?_⟩) fun t => absurd (show There GK 2 65536 4 by decide) t
  intro J28 k28
  refine pF rfl ?_
  refine mem_Copy_ok (by decide) (by decide) (by decide) SC (fun _ _ hD uD SD => ⟨_, rfl, k28 _ _ (iF rfl ?_)⟩) fun t => absurd (show There GK 2 65538 4 ∧ There GK 2 65536 4 by decide) t
  refine mem_Read_ok (by decide) (by decide) SD (fun _ hE be uE hbe BE => ⟨_, _, _, _, rfl, ?_⟩) fun t => absurd (show There GK 2 65536 7 by decide) t
  have SE := SD.upd uE fun _ _ => id
  have u0E := sz nz (sz z7 (sz z7 u0B uC) uD) uE
  intro J30 k30
  refine pF rfl ?_
  let a7 : Array Value := #[(.int .u8 (9 : Int)), (.int .u8 (9 : Int)), (.int .u8 (9 : Int)), (.int .u8 (9 : Int)), (.int .u8 (9 : Int)), (.int .u8 (9 : Int)), (.int .u8 (0 : Int))]
  let hF : Heap := Array.push hE (.cells a7 T.T_uint8)
  have uF : Upd NoB hE hF := push_upd _ _ _
  have BF : Blk hF hE.size 7 (fun j => .int .u8 (if j < 6 then 9 else 0)) := (Blk.new hE a7 T.T_uint8).congr fun j hj => by
    have : j < 7 := hj
    have : j = 0 ∨ j = 1 ∨ j = 2 ∨ j = 3 ∨ j = 4 ∨ j = 5 ∨ j = 6 := by omega
    rcases this with rfl | rfl | rfl | rfl | rfl | rfl | rfl <;> rfl
  refine Same_true (n := 7) (by decide) (((BE.upd uF id).row 0 7 (by decide)).congr fun i hi => by rw [Nat.zero_add]) ((BF.row 0 7 (by decide)).congr fun i hi => by rw [Nat.zero_add]) (fun i hi => ?_) ⟨_, rfl, k30 _ _ ?_⟩
  · have : i = 0 ∨ i = 1 ∨ i = 2 ∨ i = 3 ∨ i = 4 ∨ i = 5 ∨ i = 6 := by omega
    rcases this with rfl | rfl | rfl | rfl | rfl | rfl | rfl <;> decide +kernel
  have SF := SE.upd uF fun _ _ => id
  have u0F := sz nz u0E uF
  intro J31 k31
  refine pF rfl ?_
  let hG : Heap := Array.push hF (.cells #[(.int .u8 (1 : Int)), (.int .u8 (2 : Int))] T.T_uint8)
  have uG : Upd NoB hF hG := push_upd _ _ _
  have SG := SF.upd uG fun _ _ => id
  have BG : Blk hG hF.size 2 (fun j => .int .u8 (if j = 0 then 1 else 2)) := (Blk.new hF #[(.int .u8 (1 : Int)), (.int .u8 (2 : Int))] T.T_uint8).congr fun j hj => by
    have : j < 2 := hj
    have : j = 0 ∨ j = 1 := by omega
    rcases this with rfl | rfl <;> rfl
  refine mem_Write_ok (m := 2) (g := fun j => if j = 0 then 1 else 2) (by decide) (by decide) (by decide) SG ((BG.row 0 2 (by decide)).congr fun i hi => by rw [Nat.zero_add]) (fun x _ => by split <;> decide) (.inr fun a ha hb => ?_) (fun t => absurd t (by decide)) fun _ hH uH => ⟨_, rfl, k31 _ _ ?_⟩
  · cases ha
    exact absurd (SF.lt _ hb) (Nat.lt_irrefl _)
  have SH := SG.upd uH fun _ _ => id
  have u0H := sz nz (sz nz u0F uG) uH
  intro J32 k32
  refine pF rfl ?_
  refine mem_Fill_ok (by decide) (by decide) (by decide) SH (fun t => absurd t (by decide)) fun _ hI uI => ⟨_, rfl, k32 _ _ ?_⟩
  have SI := SH.upd uI fun _ _ => id
  intro J33 k33
  refine pF rfl ?_
  refine mem_Copy_ok (by decide) (by decide) (by decide) SI (fun _ _ hJ uJ SJ => ⟨_, rfl, k33 _ _ (iF rfl ?_)⟩) fun t => absurd (show There GK 2 65536 0 ∧ There GK 2 81920 0 by decide) t
  refine mem_Byte_ok (by decide) SJ (fun _ hK uK => ⟨_, _, rfl, ?_⟩) fun t => absurd (show There GK 2 81919 1 by decide) t
  have SK := SJ.upd uK fun _ _ => id
  have u0K := sz nz (sz z7 (sz nz u0H uI) uJ) uK
  intro J35 k35
  refine pF (by decide +kernel) (k35 _ _ ?_)
  intro J36 k36
  refine pF rfl ?_
  refine mem_Decommit_ok (by decide) SK (fun _ => ⟨_, rfl, k36 _ _ ?_⟩) fun m hm _ => absurd hm (by omega)
  intro J37 k37
  refine pF rfl ?_
  refine mem_Decommit_ok (by decide) SK (fun e => absurd e (by decide)) fun m hm hm2 hL2 uL sL SL => ⟨_, rfl, k37 _ _ (iF rfl ?_)⟩
  have hm1 : m = 1 := by omega
  subst hm1
  have u0L := sz z7 u0K uL
  refine mem_Byte_ok (by decide) SL (fun t => absurd t (by decide)) fun _ hM uM => ⟨_, _, rfl, ?_⟩
  have SM := SL.upd uM fun _ _ => id
  have u0M := sz nz u0L uM
  refine mem_Commit_ok SM (fun e => absurd e (by decide)) fun _ _ hN uN SN => ⟨_, _, rfl, ?_⟩
  refine mem_Byte_ok (by decide) SN (fun _ hO uO => ⟨_, _, rfl, ?_⟩) fun t => absurd (show There GK (1 + 1) 73728 1 by decide) t
  have u0O := sz nz (sz z7 u0M uN) uO
  intro J41 k41
  refine qT rfl (k41 _ _ ?_)
  intro J42 k42
  refine qT rfl (k42 _ _ ?_)
  intro J43 k43
  refine qT (by decide) (k43 _ _ ?_)
  intro J44 k44
  refine qT rfl (k44 _ _ ⟨?_, u0O⟩)
  congr 1

end
end Go.Proofs.Ytpninapdjcggoaa
