/- LinksSpoilt. No condition. -/
import Derived.Test.YtfijahblggnbbaaKA
import Derived.Test.YtfijahblggnbbaaK6
import Derived.Test.YtfijahblggnbbaaX0
set_option linter.unusedSimpArgs false
set_option linter.unusedVariables false
namespace Go.Proofs.Ytfijahblggnbbaa
open Go.V Classical

theorem wf_u64 {n : Int} (h : (Lit.int .u64 n).wf = true) : U64 n := by
  have := Go.bounds_u64 h; exact ⟨by omega, by omega⟩
theorem wf_i64 {n : Int} (h : (Lit.int .i64 n).wf = true) : -9223372036854775808 ≤ n ∧ n ≤ 9223372036854775807 := by
  have := Go.bounds_i64 h; omega

theorem Inv.nil : Inv v0 [] := ⟨rfl, rfl, List.nodup_nil, (fun p hp => by cases hp), trivial⟩

theorem split_at {l : List Int} {i : Nat} (hi : i < l.length) : ∃ l1 l2, l = l1 ++ l.getD i 0 :: l2 ∧ l1.length = i ∧ l1 = l.take i :=
  ⟨l.take i, l.drop (i + 1), by
    rw [List.getD_eq_getElem?_getD, List.getElem?_eq_getElem hi]
    show l = l.take i ++ l[i] :: l.drop (i + 1)
    rw [List.getElem_cons_drop, List.take_append_drop], by simp; omega, rfl⟩

section
variable {w₀ : World}

/-- A list of cells and the row of what it holds. -/
abbrev HR (s l : Nat) (Z : Nat → Prop) (x : LS) (q : Option Addr) (cq : Nat) (want : List Int) : Res := andR (lwR s l C1 Z x) (slR q want.length cq 1 (uL want))

theorem hr_row {s l : Nat} {Z : Nat → Prop} {x : LS} {q : Option Addr} {cq : Nat} {want : List Int} {h : Heap} (P : (HR s l Z x q cq want).P h) : Row h q want.length (uL want) := by
  have := sl_row P.2.1; simpa using this

theorem hr_cel {s l : Nat} {Z : Nat → Prop} {x : LS} {q : Option Addr} {cq : Nat} {want : List Int} {h2 : Heap} (P : (HR s l Z x q cq want).P h2) {i : Nat} (hi : i < want.length) :
    ∃ a, q = some a ∧ ∀ j : Int, j = ((i : Nat) : Int) → cellAt h2 (a.add (Int.toNat j * 1)) = some (.int .u64 (want.getD i 0)) := by
  obtain ⟨b, e, hc⟩ := sl_cell P.2.1 (i := i) (by omega)
  refine ⟨_, e, fun j hj => ?_⟩
  subst hj
  simpa [uL] using hc

theorem LinksSpoilt_law {w : World} {p : Option Addr} {n cp : Nat} {a v : Int} (hs : SRow w.heap .i64 p n cp) (ha : (Lit.int .i64 a).wf = true) (b : Bool) (hv : (Lit.int .u64 v).wf = true) :
    CallV Try.prog w F.croftlaw3_LinksSpoilt [.slice p n cp, .int .i64 a, .bool b, .int .u64 v] w.heap fun r h' => r = .bool true ∧ Upd NoB w.heap h' := by
  have ha := wf_i64 ha
  have hv := wf_u64 hv
  obtain ⟨f, hnc, hc, hr, hf⟩ := hs
  have hfin : ∀ (h' : Heap) (R : Res), New w.heap h' R → (fun (r : Value) (h' : Heap) => r = Value.bool true ∧ Upd NoB w.heap h') (.bool true) h' := fun h' R N => ⟨rfl, N.u⟩
  generalize (fun (r : Value) (h' : Heap) => r = Value.bool true ∧ Upd NoB w.heap h') = K at hfin ⊢
  refine croftlaw3_LinksSpoilt.call ?_
  unfold croftlaw3_LinksSpoilt.vc
  refine small_ok fun h1 s Z A1 => ⟨_, rfl, fun J2 hJ2 => pF rfl (lives_ok fun h2 u2 => ⟨_, rfl, hJ2 _ _ (iF rfl ?_)⟩)⟩
  have A2 := A1.quiet u2
  refine links_New_ok (s := s) (by omega) fun h3 A3 => ⟨_, rfl, ?_⟩
  have B0 : New w.heap h3 (lwR s h2.size C1 Z v0) := (A2.and A3).conv (fun P => ⟨P.2.1, P.1, fun b e e' => P.2.2 b e' e⟩) fun b e => e.symm
  generalize h2.size = l at B0
  intro J4 hJ4 L28 hL28
  -- behind the loop
  have rest : ∀ (x : LS) (want : List Int) (q : Option Addr) (cq : Nat) (h4 : Heap), Inv x want → New w.heap h4 (HR s l Z x q cq want) → J4 [.int .i64 a, .bool b, .int .u64 v, .pointer (some ⟨s, 0, none⟩), .pointer (some ⟨l, 0, none⟩), .slice q want.length cq] h4 := by
    intro x want q cq h4 I N4
    have P4 := N4.p
    have hlen := cells_len I.nd I.cl
    refine hJ4 _ _ _ _ _ _ _ _ _ (jor.2 ?_)
    by_cases hat : a < 0 ∨ (want.length : Int) ≤ a
    · have e : (decide (a < 0) || decide (a ≥ ((want.length : Nat) : Int))) = true := by
        rcases hat with e | e
        · rw [decide_eq_true e]; rfl
        · rw [decide_eq_true (show a ≥ _ from e), Bool.or_true]
      rw [e]
      exact ⟨fun _ => held_ok I P4 fun h5 S5 => ⟨_, rfl, hfin h5 _ (N4.stp S5)⟩, fun e => by cases e⟩
    obtain ⟨i, rfl⟩ : ∃ i : Nat, a = (i : Int) := ⟨a.toNat, by omega⟩
    have hi : i < want.length := by omega
    have e : (decide (((i : Nat) : Int) < 0) || decide (((i : Nat) : Int) ≥ ((want.length : Nat) : Int))) = false := by
      rw [decide_eq_false (by omega), decide_eq_false (by omega)]; rfl
    rw [e]
    refine ⟨fun e => (by cases e), fun _ => ?_⟩
    obtain ⟨ad, ead, hcl⟩ := hr_cel P4 hi
    refine ⟨ad, ead, by omega, Int.ofNat_lt.2 hi, _, hcl _ rfl, ?_⟩
    obtain ⟨l1, l2, ew, el, etk⟩ := split_at hi
    generalize hp : want.getD i 0 = pp at *
    have hcp : Cell pp := I.cl pp (by rw [ew]; simp)
    have hlo := cell_lo hcp
    have t16 := cell_th I.n1 hcp
    obtain ⟨t1, t2⟩ := th8 t16
    have I' : Inv x (l1 ++ pp :: l2) := by rw [← ew]; exact I
    have sg := (seg_append.1 I'.sg).2
    have r1 : x.st.rd C1 pp = l2.headD 0 := sg.1
    have r2 : x.st.rd C1 (pp + 8) = l1.getLastD 0 := sg.2.1
    have c1 : ∀ q ∈ l1, Cell q := fun q hq => I'.cl q (List.mem_append_left _ hq)
    have c2 : ∀ q ∈ l2, Cell q := fun q hq => I'.cl q (by simp [hq])
    have w1 : IntKind.wrap .i64 (((i : Nat) : Int) + 1) = (((i + 1 : Nat)) : Int) := by rw [IntWalk.i64_in _ (by omega)]; omega
    cases b
    · -- a prev
      refine ⟨fun e => (by cases e), fun _ => ?_⟩
      rw [wrap_add8 (by omega) (by omega)]
      refine word_ok (by omega) P4.1.2.1 fun h5 u5 => ⟨_, rfl, fun J15 hJ15 => ?_⟩
      have N5 := N4.quiet u5
      have P5 := N5.p
      rw [if_pos t2, r2]
      by_cases hq : l1.getLastD 0 = v
      · refine pT (by simpa using hq) (hJ15 _ _ (iT rfl fun J16 hJ16 => qT (ne_b (by rw [← hq]; exact (linkD_ne c1).2)) ?_))
        refine word_ok (by omega) P5.1.2.1 fun h6 u6 => ⟨_, rfl, hJ16 _ _ ?_⟩
        rw [if_pos t2, r2, hq]
        simp only [beq_self_eq_true]
        exact hfin h6 _ (N5.quiet u6)
      refine pF (by simpa using hq) (setw_ok (by omega) hv t2 P5.1.2.1 fun h6 S6 => ⟨_, rfl, hJ15 _ _ (iF rfl ?_)⟩)
      let x' : LS := ⟨x.st.wr C1 (pp + 8) v, x.hd⟩
      have N6 : New w.heap h6 (HR s l Z x' q cq want) := N5.stp ((S6.right P5.1).left P5)
      have P6 := N6.p
      have hxa : allL C1 x' = l1 := spoil_all I' hv (Ne.symm hq)
      refine ⟨by omega, by omega, by have := P6.2.1.1; omega, ?_⟩
      refine all_ok P6.1 fun h7 p7 c7 S7 => ⟨_, _, _, rfl, ?_⟩
      rw [hxa] at S7 ⊢
      have N7 : New w.heap h7 (andR (andR (lwR s l C1 Z x') (slR p7 l1.length c7 1 (uL l1))) (slR q want.length cq 1 (uL want))) := N6.stp (S7.left P6)
      have P7 := N7.p
      have R1 : Row h7 p7 l1.length (uL l1) := by have := sl_row P7.1.2.1; simpa using this
      have Rw : Row h7 q want.length (uL want) := by have := sl_row P7.2.1; simpa using this
      have R2 : Row h7 q l1.length (uL l1) := by
        have := Row.take Rw (m := l1.length) (by omega)
        refine this.congr fun j hj => ?_
        unfold uL
        rw [ew, List.getD_eq_getElem?_getD, List.getD_eq_getElem?_getD, List.getElem?_append_left hj]
      have e3 : (if cq = Int.toNat (0 : Int) then q else Option.map (fun b => Addr.add b (Int.toNat (0 : Int) * 1)) q) = q := sl_front P6.2.1 rfl
      have e4 : Int.toNat ((i : Nat) : Int) - Int.toNat (0 : Int) = l1.length := by rw [el]; simp
      rw [e3, e4]
      refine same_ok (by omega) R1 R2 ⟨_, rfl, fun J20 hJ20 => pF (by simp) fun J25 hJ25 => ?_⟩
      have N8 : New w.heap h7 (HR s l Z x' q cq want) := N7.conv (fun P => ⟨P.1.1, P.2.1, fun b e e' => P.2.2 b (.inl e) e'⟩) fun b e => e.elim (fun e => .inl (.inl e)) .inr
      -- the last part
      have last : ∀ (h8 : Heap), New w.heap h8 (HR s l Z x' q cq want) → J20 false h8 := by
        intro h8 N9
        have P9 := N9.p
        refine hJ20 _ _ (iF rfl fun J21 hJ21 => ?_)
        have self : ∀ (h9 : Heap), (v = 0 ∨ v ∈ want) → New w.heap h9 (HR s l Z x' q cq want) → J21 false h9 := by
          intro h9 hm N10
          have hm' : v = 0 ∨ v ∈ l1 ++ pp :: l2 := by rw [← ew]; exact hm
          have hrem := spoil_self I' hv (Ne.symm hq) hm'
          refine hJ21 _ _ fun J22 hJ22 => pF rfl ?_
          refine links_Remove_ok (x := x') (cell_u64 hcp) N10.p.1 fun h10 S10 => ⟨_, rfl, hJ22 _ _ ?_⟩
          have e5 : removeU C1 x' pp = (x', 8) := hrem
          rw [e5] at S10 ⊢
          exact hfin h10 _ (N10.stp (S10.left N10.p))
        by_cases hz : v = 0
        · exact qF' (by simp [hz]) (self h8 (.inl hz) N9)
        · refine qT (ne_b hz) (has_ok (by omega) (hr_row P9) fun h9 u9 => ⟨_, rfl, ?_⟩)
          have N10 := N9.quiet u9
          by_cases hm : v ∈ want
          · rw [decide_eq_true hm]; exact self h9 (.inr hm) N10
          · rw [decide_eq_false hm]
            exact hJ21 _ _ fun J22 hJ22 => pT rfl (hJ22 _ _ (hfin h9 _ N10))
      rcases Nat.eq_zero_or_pos i with hi0 | hi0
      · exact qF' (decide_eq_false (by omega)) (hJ25 _ _ (last h7 N8))
      · have w2 : IntKind.wrap .i64 (((i : Nat) : Int) - 1) = (((i - 1 : Nat)) : Int) := by rw [IntWalk.i64_in _ (by omega)]; omega
        obtain ⟨l0, pa, e1⟩ : ∃ l0 pa, l1 = l0 ++ [pa] := ⟨l1.dropLast, l1.getLast (by intro e; rw [e] at el; simp at el; omega), (List.dropLast_concat_getLast _).symm⟩
        have hw : want = l0 ++ pa :: pp :: l2 := by rw [ew, e1]; simp
        have hg : want.getD (i - 1) 0 = pa := by
          rw [hw, List.getD_eq_getElem?_getD, List.getElem?_append_right (by rw [e1] at el; simp at el; omega)]
          have : i - 1 - l0.length = 0 := by rw [e1] at el; simp at el; omega
          rw [this]; rfl
        have hlast : l1.getLastD 0 = pa := by rw [e1]; simp
        have hrem : removeU C1 x' pa = (x', 8) := spoil_prev (l1 := l0) (l2 := l2) (by rw [← hw]; exact I) hv (fun e => hq (by rw [hlast, e]))
        have hcpa : Cell pa := I.cl pa (by rw [hw]; simp)
        obtain ⟨ad2, ead2, hcl2⟩ := hr_cel N8.p (i := i - 1) (by omega)
        refine qT (decide_eq_true (by omega)) ⟨ad2, ead2, ?_⟩
        rw [w2]
        refine ⟨by omega, Int.ofNat_lt.2 (by omega), _, hcl2 _ rfl, ?_⟩
        rw [hg]
        refine links_Remove_ok (x := x') (cell_u64 hcpa) N8.p.1 fun h8 S8 => ⟨_, rfl, hJ25 _ _ ?_⟩
        rw [hrem] at S8 ⊢
        exact last h8 (N8.stp (S8.left N8.p))
    · -- a next
      refine ⟨fun _ => ?_, fun e => by cases e⟩
      refine word_ok (cell_u64 hcp) P4.1.2.1 fun h5 u5 => ⟨_, rfl, fun J8 hJ8 => ?_⟩
      have N5 := N4.quiet u5
      have P5 := N5.p
      rw [if_pos t1, r1]
      by_cases hq : l2.headD 0 = v
      · refine pT (by simpa using hq) (hJ8 _ _ (iT rfl fun J9 hJ9 => qT (ne_b (by rw [← hq]; exact (linkD_ne c2).1)) ?_))
        refine word_ok (cell_u64 hcp) P5.1.2.1 fun h6 u6 => ⟨_, rfl, hJ9 _ _ ?_⟩
        rw [if_pos t1, r1, hq]
        simp only [beq_self_eq_true]
        exact hfin h6 _ (N5.quiet u6)
      refine pF (by simpa using hq) (setw_ok (cell_u64 hcp) hv t1 P5.1.2.1 fun h6 S6 => ⟨_, rfl, hJ8 _ _ (iF rfl ?_)⟩)
      let x' : LS := ⟨x.st.wr C1 pp v, x.hd⟩
      have N6 : New w.heap h6 (HR s l Z x' q cq want) := N5.stp ((S6.right P5.1).left P5)
      have P6 := N6.p
      intro J11 hJ11
      rw [w1]
      by_cases hlast : i + 1 = want.length
      · exact pT (by simp [hlast]) (hJ11 _ _ (hfin h6 _ N6))
      · obtain ⟨ad2, ead2, hcl2⟩ := hr_cel P6 (i := i + 1) (by omega)
        refine pF (beq_false_of_ne (by omega)) ⟨ad2, ead2, by omega, Int.ofNat_lt.2 (by omega), _, hcl2 _ rfl, ?_⟩
        obtain ⟨nn, l3, e2⟩ : ∃ nn l3, l2 = nn :: l3 := by
          cases l2 with
          | nil => exfalso; have := congrArg List.length ew; simp at this; omega
          | cons a l => exact ⟨a, l, rfl⟩
        have hg : want.getD (i + 1) 0 = nn := by
          rw [ew, e2, List.getD_eq_getElem?_getD, List.getElem?_append_right (by omega)]
          have : i + 1 - l1.length = 1 := by omega
          rw [this]; rfl
        have hrem : removeU C1 x' nn = (x', 8) := spoil_next (l1 := l1) (l2 := l3) (by rw [← e2]; exact I') hv (fun e => hq (by rw [e2]; exact e.symm))
        rw [hg]
        refine links_Remove_ok (x := x') (cell_u64 (c2 nn (by rw [e2]; simp))) P6.1 fun h7 S7 => ⟨_, rfl, hJ11 _ _ ?_⟩
        rw [hrem] at S7 ⊢
        exact hfin h7 _ (N6.stp (S7.left P6))
  -- the loop
  have loop : ∀ (k i : Nat) (x : LS) (want : List Int) (q : Option Addr) (cq : Nat) (h4 : Heap), i + k = n → Inv x want → New w.heap h4 (HR s l Z x q cq want) →
      L28 [.slice p n cp, .int .i64 a, .bool b, .int .u64 v, .pointer (some ⟨s, 0, none⟩), .pointer (some ⟨l, 0, none⟩), .slice q want.length cq, .int .i64 ((i : Nat) : Int)] h4 := by
    intro k
    induction k with
    | zero =>
      intro i x want q cq h4 hi I N4
      refine hL28 _ _ _ _ _ _ _ _ _ _ _ _ _ (jand.2 ?_)
      rw [decide_eq_false (show ¬ ((i : Nat) : Int) < ((n : Nat) : Int) by omega)]
      exact ⟨fun e => (by cases e), fun _ => rest x want q cq h4 I N4⟩
    | succ k ih =>
      intro i x want q cq h4 hi I N4
      refine hL28 _ _ _ _ _ _ _ _ _ _ _ _ _ (jand.2 ?_)
      rw [decide_eq_true (show ((i : Nat) : Int) < ((n : Nat) : Int) by omega)]
      by_cases h100 : ((i : Nat) : Int) < 100
      · rw [decide_eq_true h100]
        refine ⟨fun _ J30 hJ30 => ?_, fun e => by cases e⟩
        have hlen := cells_len I.nd I.cl
        have P4 := N4.p
        have hrow := hr.upd N4.u fun _ _ => id
        have next : ∀ (x : LS) (want : List Int) (q : Option Addr) (cq : Nat) (h4 : Heap), Inv x want → New w.heap h4 (HR s l Z x q cq want) →
            J30 [.slice p n cp, .int .i64 a, .bool b, .int .u64 v, .pointer (some ⟨s, 0, none⟩), .pointer (some ⟨l, 0, none⟩), .slice q want.length cq, .int .i64 ((i : Nat) : Int)] h4 := by
          intro x want q cq h4 I N4
          refine hJ30 _ _ _ _ _ _ _ _ _ _ _ _ _ ?_
          rw [IntWalk.i64_in _ (by omega)]
          have := ih (i + 1) x want q cq h4 (by omega) I N4
          simpa using this
        rcases hrow with hrow | ⟨bb, o, rfl, hrow⟩
        · omega
        refine ⟨_, rfl, by omega, Int.ofNat_lt.2 (by omega), f i, by simp only [add_mk, Int.toNat_natCast, Nat.mul_one]; exact hrow i (by omega), ?_⟩
        refine cell_ok ⟨_, rfl, has_ok (by omega) (hr_row P4) fun h5 u5 => ⟨_, rfl, ?_⟩⟩
        have N5 := N4.quiet u5
        have hcell := cellU_cell (f i)
        generalize cellU (f i) = pc at hcell ⊢
        by_cases hm : pc ∈ want
        · rw [decide_eq_true hm]
          exact iT rfl (next x want q cq h5 I N5)
        · rw [decide_eq_false hm]
          obtain ⟨g1, g2, g3⟩ := push_inv I hcell hm
          refine iF rfl (links_Push_ok (cell_u64 hcell) N5.p.1 fun h6 S6 => ⟨_, rfl, iF (eq_b g1) ?_⟩)
          have N6 : New w.heap h6 (HR s l Z (pushU C1 x pc).1 q cq want) := N5.stp (S6.left N5.p)
          obtain ⟨os, vs, q1, q2⟩ := cons_app (p := pc) (by omega) (hr_row N6.p)
          refine ⟨os, vs, q1, fun p7 c7 h7 hres => ?_⟩
          have A7 := q2 p7 c7 h7 hres
          have N7 : New w.heap h7 (HR s l Z (pushU C1 x pc).1 p7 c7 (pc :: want)) := by
            have B6 : New w.heap h6 (lwR s l C1 Z (pushU C1 x pc).1) := N6.conv (fun P => P.1) fun b e => .inl e
            refine (B6.and A7).conv (fun P => ?_) fun b e => e
            rw [Nat.add_comm] at P
            exact P
          have := next (pushU C1 x pc).1 (pc :: want) p7 c7 h7 g2 N7
          rw [Nat.add_comm]
          exact this
      · rw [decide_eq_false h100]
        exact ⟨fun e => (by cases e), fun _ => rest x want q cq h4 I N4⟩
  have N0 : New w.heap h3 (HR s l Z v0 none 0 []) := by
    refine B0.conv (fun P => ⟨P, sl_nil 1 _ _, fun b e e' => absurd e' (sl_nil_fp b)⟩) fun b e => e.elim id fun e => absurd e (sl_nil_fp b)
  exact loop n 0 v0 [] none 0 h3 (by omega) Inv.nil N0
end
end Go.Proofs.Ytfijahblggnbbaa
