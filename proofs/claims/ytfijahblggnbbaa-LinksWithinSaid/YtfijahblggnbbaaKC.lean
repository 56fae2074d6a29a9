/- LinksStack. No condition. -/
import Derived.Test.YtfijahblggnbbaaKB
import Derived.Test.YtfijahblggnbbaaX3
set_option linter.unusedSimpArgs false
set_option linter.unusedVariables false
namespace Go.Proofs.Ytfijahblggnbbaa
open Go.V Classical

/-- Moves that are handed in. -/
def Mvs (h : Heap) (p : Option Addr) (n c : Nat) : Prop := ∃ o g : Nat → Int, n ≤ c ∧ c < 9223372036854775808 ∧
  (n = 0 ∨ ∃ b off, p = some ⟨b, off, none⟩ ∧ ∀ i, i < n → cellAt h ⟨b, off + i * 2, none⟩ = some (.int .i64 (o i)) ∧ cellAt h ⟨b, off + i * 2 + 1, none⟩ = some (.int .i64 (g i)))

def moTy : Nat → TypeDesc := fun _ => .int .i64

theorem moRow {H : Type} {enc : TypeId × Value → H} {W : World} {t e : TypeId} {fs : Array Field} {p : Option Addr} {n c : Nat} {d : DataW H} {ps : List MemPlace} (ht : Try.prog.underlying t = some (.slice e)) (he : Try.prog.underlying e = some (.struct fs)) (hm : fs.size = 2) (hce : Try.prog.cellsOf e = 2)
    (hf : ∀ j, j < 2 → ∃ f, fs[j]? = some f ∧ f.offset = j ∧ Try.prog.cellsOf f.type = 1 ∧ Try.prog.underlying f.type = some (moTy j))
    (h : DataW.Trod enc Try.prog W 0 (fun _ => true) true t (.slice p n c) d ps) : Mvs W.heap p n c := by
  obtain ⟨h1, h2, h3⟩ := structRow ht he hm (by decide) hce hf h
  rcases h3 with h0 | ⟨b, off, rfl, hc⟩
  · exact ⟨fun _ => 0, fun _ => 0, h1, h2, .inl h0⟩
  · have each : ∀ i, ∃ o : Int × Int, i < n → cellAt W.heap ⟨b, off + i * 2, none⟩ = some (.int .i64 o.1) ∧ cellAt W.heap ⟨b, off + i * 2 + 1, none⟩ = some (.int .i64 o.2) := by
      intro i
      by_cases hi : i < n
      · obtain ⟨v0, c0, z0, rfl, w0⟩ := hc i hi 0 (by omega)
        obtain ⟨v1, c1, z1, rfl, w1⟩ := hc i hi 1 (by omega)
        exact ⟨(z0, z1), fun _ => ⟨c0, c1⟩⟩
      · exact ⟨(0, 0), fun e => absurd e hi⟩
    exact ⟨fun i => (each i).choose.1, fun i => (each i).choose.2, h1, h2, .inr ⟨b, off, rfl, fun i hi => (each i).choose_spec hi⟩⟩

theorem dropL_mid {l1 l2 : List Int} {p : Int} (hn : (l1 ++ p :: l2).Nodup) : dropL (l1 ++ p :: l2) p = l1 ++ l2 := by
  have h := List.nodup_append.1 hn
  have h2 := List.nodup_cons.1 h.2.1
  unfold dropL
  rw [List.filter_append, List.filter_cons]
  have e1 : l1.filter (· != p) = l1 := List.filter_eq_self.2 fun a ha => ne_b fun e => h.2.2 a ha p (List.mem_cons_self ..) e
  have e2 : l2.filter (· != p) = l2 := List.filter_eq_self.2 fun a ha => ne_b fun e => h2.1 (e ▸ ha)
  rw [e1, e2]
  simp

theorem pop_inv {x : LS} {l : List Int} {a : Int} (H : Inv x (a :: l)) : popU C1 x = ((removeU C1 x a).1, a, 0) ∧ (removeU C1 x a).2 = 0 ∧ Inv (removeU C1 x a).1 l ∧ ∀ q, Cell q → q ∉ a :: l → Same x.st (removeU C1 x a).1.st q := by
  obtain ⟨h1, h2, h3⟩ := remove_inv (l1 := []) H
  have hd : x.hd = a := H.hd
  have hz : a ≠ 0 := by have := cell_lo (H.cl a (List.mem_cons_self ..)); omega
  refine ⟨?_, h1, h2, h3⟩
  unfold popU
  rw [hd, if_neg hz, if_neg (by simpa using h1)]

theorem pop_nil {x : LS} (H : Inv x []) : popU C1 x = (x, 0, 9) := by
  have hd : x.hd = 0 := H.hd
  unfold popU
  rw [if_pos hd]

/-- What was never pushed is 0. -/
structure Clean (x : LS) (want ever : List Int) : Prop where
  sub : ∀ p ∈ want, p ∈ ever
  nd : ever.Nodup
  cl : ∀ p ∈ ever, Cell p
  zero : ∀ q, Cell q → q ∉ ever → x.st.rd C1 q = 0 ∧ x.st.rd C1 (q + 8) = 0

theorem Clean.step {x y : LS} {want want' ever ever' : List Int} (H : Clean x want ever) (hs : ∀ q, Cell q → q ∉ ever' → Same x.st y.st q) (hw : ∀ p ∈ want', p ∈ ever') (he : ∀ p ∈ ever, p ∈ ever') (nd : ever'.Nodup) (cl : ∀ p ∈ ever', Cell p) : Clean y want' ever' :=
  ⟨hw, nd, cl, fun q hq hn => by
    have h1 := hs q hq hn
    have h2 := H.zero q hq fun h => hn (he q h)
    exact ⟨by rw [h1.1]; exact h2.1, by rw [h1.2]; exact h2.2⟩⟩

theorem S1_zero (q : Int) : S1.rd C1 q = 0 := rfl

section
abbrev HR2 (s l : Nat) (Z : Nat → Prop) (x : LS) (q : Option Addr) (cq : Nat) (want : List Int) (r : Option Addr) (cr : Nat) (ever : List Int) : Res := andR (HR s l Z x q cq want) (slR r ever.length cr 1 (uL ever))

theorem hr2_row {s l : Nat} {Z : Nat → Prop} {x : LS} {q r : Option Addr} {cq cr : Nat} {want ever : List Int} {h : Heap} (P : (HR2 s l Z x q cq want r cr ever).P h) : Row h r ever.length (uL ever) := by
  have := sl_row P.2.1; simpa using this

theorem LinksStack_law {w : World} {p : Option Addr} {n cp : Nat} (hs : Mvs w.heap p n cp) :
    CallV Try.prog w F.croftlaw3_LinksStack [.slice p n cp] w.heap fun r h' => r = .bool true ∧ Upd NoB w.heap h' := by
  obtain ⟨fo, fg, hnc, hc, hr⟩ := hs
  have hfin : ∀ (h' : Heap) (R : Res), New w.heap h' R → (fun (r : Value) (h' : Heap) => r = Value.bool true ∧ Upd NoB w.heap h') (.bool true) h' := fun h' R N => ⟨rfl, N.u⟩
  generalize (fun (r : Value) (h' : Heap) => r = Value.bool true ∧ Upd NoB w.heap h') = K at hfin ⊢
  refine croftlaw3_LinksStack.call ?_
  unfold croftlaw3_LinksStack.vc
  refine small_ok fun h1 s Z A1 => ⟨_, rfl, fun J2 hJ2 => pF rfl (lives_ok fun h2 u2 => ⟨_, rfl, hJ2 _ _ (iF rfl ?_)⟩)⟩
  have A2 := A1.quiet u2
  refine links_New_ok (s := s) (by omega) fun h3 A3 => ⟨_, rfl, ?_⟩
  have B0 : New w.heap h3 (lwR s h2.size C1 Z v0) := (A2.and A3).conv (fun P => ⟨P.2.1, P.1, fun b e e' => P.2.2 b e' e⟩) fun b e => e.symm
  generalize h2.size = l at B0
  intro J4 hJ4 L15 hL15
  -- behind the loop
  have rest : ∀ (x : LS) (want ever : List Int) (q r : Option Addr) (cq cr : Nat) (h4 : Heap), Inv x want → Clean x want ever → New w.heap h4 (HR2 s l Z x q cq want r cr ever) → J4 [.pointer (some ⟨s, 0, none⟩), .slice r ever.length cr] h4 := by
    intro x want ever q r cq cr h4 I Cl N4
    have elen := cells_len Cl.nd Cl.cl
    refine hJ4 _ _ _ _ _ fun J5 hJ5 L6 hL6 => ?_
    have lp : ∀ (k i : Nat) (h5 : Heap), i + k = 256 → New w.heap h5 (HR2 s l Z x q cq want r cr ever) → L6 [.pointer (some ⟨s, 0, none⟩), .slice r ever.length cr, .int .i64 ((i : Nat) : Int)] h5 := by
      intro k
      induction k with
      | zero =>
        intro i h5 hi N5
        exact hL6 _ _ _ _ _ _ (iF (decide_eq_false (by omega)) (hJ5 _ (hfin h5 _ N5)))
      | succ k ih =>
        intro i h5 hi N5
        have next : ∀ h6, New w.heap h6 (HR2 s l Z x q cq want r cr ever) → L6 [.pointer (some ⟨s, 0, none⟩), .slice r ever.length cr, .int .i64 (IntKind.wrap .i64 (((i : Nat) : Int) + 1))] h6 := by
          intro h6 N6
          rw [IntWalk.i64_in _ (by omega)]
          have := ih (i + 1) h6 (by omega) N6
          simpa using this
        have hcell := cellU_cell ((i : Nat) : Int)
        refine hL6 _ _ _ _ _ _ (iT (decide_eq_true (by omega)) (cell_ok ⟨_, rfl, ?_⟩))
        refine has_ok (by omega) (hr2_row N5.p) fun h6 u6 => ⟨_, rfl, fun J9 hJ9 => ?_⟩
        have N6 := N5.quiet u6
        by_cases hm : cellU ((i : Nat) : Int) ∈ ever
        · rw [decide_eq_true hm]
          exact qF' rfl (hJ9 _ _ (iF rfl (next h6 N6)))
        · rw [decide_eq_false hm]
          have z := Cl.zero _ hcell hm
          have t := th8 (cell_th I.n1 hcell)
          refine qT rfl (cell_ok ⟨_, rfl, ?_⟩)
          refine word_ok (cell_u64 hcell) N6.p.1.1.2.1 fun h7 u7 => ⟨_, rfl, fun J12 hJ12 => ?_⟩
          have N7 := N6.quiet u7
          rw [if_pos t.1, z.1]
          refine pF rfl (cell_ok ⟨_, rfl, ?_⟩)
          have hlo := cell_lo hcell
          rw [wrap_add8 (by omega) (by omega)]
          refine word_ok (by omega) N7.p.1.1.2.1 fun h8 u8 => ⟨_, rfl, hJ12 _ _ (hJ9 _ _ ?_)⟩
          rw [if_pos t.2, z.2]
          exact iF rfl (next h8 (N7.quiet u8))
    exact lp 256 0 h4 (by omega) N4
  -- the loop
  have loop : ∀ (k i : Nat) (x : LS) (want ever : List Int) (q r : Option Addr) (cq cr : Nat) (h4 : Heap), i + k = n → Inv x want → Clean x want ever → New w.heap h4 (HR2 s l Z x q cq want r cr ever) →
      L15 [.slice p n cp, .pointer (some ⟨s, 0, none⟩), .pointer (some ⟨l, 0, none⟩), .slice q want.length cq, .slice r ever.length cr, .int .i64 ((i : Nat) : Int)] h4 := by
    intro k
    induction k with
    | zero =>
      intro i x want ever q r cq cr h4 hi I Cl N4
      refine hL15 _ _ _ _ _ _ _ _ _ _ _ _ _ (jand.2 ?_)
      rw [decide_eq_false (show ¬ ((i : Nat) : Int) < ((n : Nat) : Int) by omega)]
      exact ⟨fun e => (by cases e), fun _ => rest x want ever q r cq cr h4 I Cl N4⟩
    | succ k ih =>
      intro i x want ever q r cq cr h4 hi I Cl N4
      refine hL15 _ _ _ _ _ _ _ _ _ _ _ _ _ (jand.2 ?_)
      rw [decide_eq_true (show ((i : Nat) : Int) < ((n : Nat) : Int) by omega)]
      by_cases h600 : ((i : Nat) : Int) < 600
      case neg =>
        rw [decide_eq_false h600]
        exact ⟨fun e => (by cases e), fun _ => rest x want ever q r cq cr h4 I Cl N4⟩
      rw [decide_eq_true h600]
      refine ⟨fun _ J17 hJ17 => ?_, fun e => by cases e⟩
      have wlen := cells_len I.nd I.cl
      have elen := cells_len Cl.nd Cl.cl
      rcases hr with hr | ⟨bb, off, rfl, hr⟩
      · omega
      have next : ∀ (x : LS) (want ever : List Int) (q r : Option Addr) (cq cr : Nat) (h5 : Heap), Inv x want → Clean x want ever → New w.heap h5 (HR2 s l Z x q cq want r cr ever) →
          J17 [.slice (some ⟨bb, off, none⟩) n cp, .pointer (some ⟨s, 0, none⟩), .pointer (some ⟨l, 0, none⟩), .slice q want.length cq, .slice r ever.length cr, .int .i64 ((i : Nat) : Int)] h5 := by
        intro x want ever q r cq cr h5 I Cl N5
        refine hJ17 _ _ _ _ _ _ _ _ _ _ _ _ _ ?_
        rw [IntWalk.i64_in _ (by omega)]
        have := ih (i + 1) x want ever q r cq cr h5 (by omega) I Cl N5
        simpa using this
      have hri : cellAt h4 ⟨bb, off + i * 2, none⟩ = some (.int .i64 (fo i)) ∧ cellAt h4 ⟨bb, off + i * 2 + 1, none⟩ = some (.int .i64 (fg i)) :=
        ⟨cellAt_upd (hr i (by omega)).1 N4.u id, cellAt_upd (hr i (by omega)).2 N4.u id⟩
      refine ⟨_, rfl, by omega, Int.ofNat_lt.2 (by omega), fg i, by simp only [add_mk, Int.toNat_natCast]; exact hri.2, cell_ok ⟨_, rfl, fun J19 hJ19 => ?_⟩⟩
      have hcell := cellU_cell (fg i)
      generalize cellU (fg i) = pc at hcell ⊢
      -- what is held
      have held : ∀ (x : LS) (want ever : List Int) (q r : Option Addr) (cq cr : Nat) (h5 : Heap), Inv x want → Clean x want ever → New w.heap h5 (HR2 s l Z x q cq want r cr ever) →
          J19 [.slice (some ⟨bb, off, none⟩) n cp, .pointer (some ⟨s, 0, none⟩), .pointer (some ⟨l, 0, none⟩), .slice q want.length cq, .slice r ever.length cr, .int .i64 ((i : Nat) : Int)] h5 := by
        intro x want ever q r cq cr h5 I Cl N5
        refine hJ19 _ _ _ _ _ _ _ _ _ _ _ _ _ (held_ok I N5.p.1 fun h6 S6 => ⟨_, rfl, iF rfl ?_⟩)
        exact next x want ever q r cq cr h6 I Cl (N5.stp (S6.left N5.p))
      -- a row in the place of another
      have swap : ∀ {x y : LS} {want ever want' : List Int} {q r q' : Option Addr} {cq cr c' : Nat} {h5 h6 : Heap}, New w.heap h5 (HR2 s l Z x q cq want r cr ever) → New h5 h6 (slR q' want'.length c' 1 (uL want')) → New w.heap h6 (HR2 s l Z x q' c' want' r cr ever) := by
        intro x y want ever want' q r q' cq cr c' h5 h6 N A
        refine (N.and A).conv (fun P => ⟨⟨P.1.1.1, P.2.1, fun b e e' => P.2.2 b (.inl (.inl e)) e'⟩, P.1.2.1, fun b e e' => ?_⟩) fun b e => ?_
        · rcases e with e | e
          · exact P.1.2.2 b (.inl e) e'
          · exact P.2.2 b (.inr e') e
        · rcases e with (e | e) | e
          · exact .inl (.inl (.inl e))
          · exact .inr e
          · exact .inl (.inr e)
      refine ⟨_, rfl, by omega, Int.ofNat_lt.2 (by omega), fo i, by simp only [add_mk, Int.toNat_natCast]; exact hri.1, ?_⟩
      have e3 : (((BitVec.ofInt (IntKind.bits .i64) (fo i) &&& BitVec.ofInt (IntKind.bits .i64) 3).toNat : Nat) : Int) = fo i % 4 := and3 (fo i)
      rw [e3, IntWalk.i64_in _ (by omega)]
      by_cases hop : fo i % 4 = 3
      · -- a pop
        refine iT (by simp [hop]) (links_Pop_ok N4.p.1.1 fun h5 S5 => ⟨_, _, rfl, ?_⟩)
        cases want with
        | nil =>
          rw [pop_nil I] at S5 ⊢
          exact iT rfl (jor.2 (iF rfl (next x [] ever q r cq cr h5 I Cl (N4.stp ((S5.left N4.p.1).left N4.p)))))
        | cons a lw =>
          obtain ⟨g0, g1, g2, g3⟩ := pop_inv I
          rw [g0] at S5 ⊢
          have N5 : New w.heap h5 (HR2 s l Z (removeU C1 x a).1 q cq (a :: lw) r cr ever) := N4.stp ((S5.left N4.p.1).left N4.p)
          refine iF rfl ?_
          obtain ⟨ad, ead, hcl⟩ := hr_cel N5.p.1 (i := 0) (by simp)
          refine ⟨ad, ead, by omega, by simp, a, hcl 0 rfl, jor.2 (iF (by simp) ?_)⟩
          refine drop_ok (by omega) (hr_row N5.p.1) fun h6 q' c' A6 => ⟨_, _, _, rfl, ?_⟩
          have ed : dropL (a :: lw) a = lw := dropL_mid (l1 := []) I.nd
          rw [ed] at A6 ⊢
          refine held (removeU C1 x a).1 lw ever q' r c' cr h6 g2 (Cl.step (fun z hz hn => g3 z hz fun h => hn (Cl.sub z h)) (fun z hz => Cl.sub z (List.mem_cons_of_mem _ hz)) (fun z h => h) Cl.nd Cl.cl) (swap (y := x) N5 A6)
      · refine iF (beq_false_of_ne hop) (has_ok (by omega) (hr_row N4.p.1) fun h5 u5 => ⟨_, rfl, ?_⟩)
        have N5 := N4.quiet u5
        by_cases hm : pc ∈ want
        · rw [decide_eq_true hm]
          obtain ⟨l1, l2, ew⟩ := List.append_of_mem hm
          subst ew
          obtain ⟨g1, g2, g3⟩ := remove_inv I
          refine iT rfl (links_Remove_ok (cell_u64 hcell) N5.p.1.1 fun h6 S6 => ⟨_, rfl, iF (eq_b g1) ?_⟩)
          have N6 : New w.heap h6 (HR2 s l Z (removeU C1 x pc).1 q cq (l1 ++ pc :: l2) r cr ever) := N5.stp ((S6.left N5.p.1).left N5.p)
          refine drop_ok (by omega) (hr_row N6.p.1) fun h7 q' c' A7 => ⟨_, _, _, rfl, ?_⟩
          rw [dropL_mid I.nd] at A7 ⊢
          refine held (removeU C1 x pc).1 (l1 ++ l2) ever q' r c' cr h7 g2 (Cl.step (fun z hz hn => g3 z hz fun h => hn (Cl.sub z h)) (fun z hz => Cl.sub z ?_) (fun z h => h) Cl.nd Cl.cl) (swap (y := x) N6 A7)
          rcases List.mem_append.1 hz with h | h
          · exact List.mem_append_left _ h
          · exact List.mem_append_right _ (List.mem_cons_of_mem _ h)
        · rw [decide_eq_false hm]
          obtain ⟨g1, g2, g3⟩ := push_inv I hcell hm
          refine iF rfl (links_Push_ok (cell_u64 hcell) N5.p.1.1 fun h6 S6 => ⟨_, rfl, iF (eq_b g1) ?_⟩)
          have N6 : New w.heap h6 (HR2 s l Z (pushU C1 x pc).1 q cq want r cr ever) := N5.stp ((S6.left N5.p.1).left N5.p)
          obtain ⟨os, vs, q1, q2⟩ := cons_app (p := pc) (by omega) (hr_row N6.p.1)
          refine ⟨os, vs, q1, fun p7 c7 h7 hres => ?_⟩
          have A7 : New h6 h7 (slR p7 (pc :: want).length c7 1 (uL (pc :: want))) := by
            have := q2 p7 c7 h7 hres
            rwa [Nat.add_comm] at this
          have N7 := swap (y := x) N6 A7
          refine has_ok (by omega) (hr2_row N7.p) fun h8 u8 => ⟨_, rfl, ?_⟩
          have N8 := N7.quiet u8
          have el : 1 + want.length = (pc :: want).length := Nat.add_comm _ _
          by_cases he : pc ∈ ever
          · rw [decide_eq_true he]
            refine iF rfl ?_
            have := held (pushU C1 x pc).1 (pc :: want) ever p7 r c7 cr h8 g2 (Cl.step (fun z hz hn => g3 z hz fun h => hn ?_) (fun z hz => ?_) (fun z h => h) Cl.nd Cl.cl) N8
            · rw [el]; exact this
            · rcases List.mem_cons.1 h with rfl | h
              · exact he
              · exact Cl.sub z h
            · rcases List.mem_cons.1 hz with rfl | h
              · exact he
              · exact Cl.sub z h
          · rw [decide_eq_false he]
            refine iT rfl ?_
            obtain ⟨os, q3, q4⟩ := sl_app1 (zs := [(.int .u64 (0 : Int))]) (v := .int .u64 pc) (b := 8) (e := T.T_uint64) (T := T.T_uint64) N8.p.2.1 rfl rfl (by omega)
            refine ⟨os, _, q3, fun p9 c9 h9 hres => ?_⟩
            have S9 : Stp h8 h9 (slR r ever.length cr 1 (uL ever)) (slR p9 (ever ++ [pc]).length c9 1 (uL (ever ++ [pc]))) := (q4 p9 c9 h9 hres).conv (fun P => by
              have P := sl_congr P (g := uL (ever ++ [pc])) fun i hi => uL_snoc ever pc i (by omega)
              simpa using P) fun _ e => e
            have N9 : New w.heap h9 (HR2 s l Z (pushU C1 x pc).1 p7 c7 (pc :: want) p9 c9 (ever ++ [pc])) := N8.stp (S9.right N8.p)
            have := held (pushU C1 x pc).1 (pc :: want) (ever ++ [pc]) p7 p9 c7 c9 h9 g2 (Cl.step (fun z hz hn => g3 z hz fun h => hn ?_) (fun z hz => ?_) (fun z h => List.mem_append_left _ h) ?_ ?_) N9
            · rw [el]; simpa using this
            · rcases List.mem_cons.1 h with rfl | h
              · simp
              · exact List.mem_append_left _ (Cl.sub z h)
            · rcases List.mem_cons.1 hz with rfl | h
              · simp
              · exact List.mem_append_left _ (Cl.sub z h)
            · exact List.nodup_append.2 ⟨Cl.nd, by simp, fun a ha b hb e => by
                have : b = pc := by simpa using hb
                subst this; subst e; exact he ha⟩
            · intro z hz
              rcases List.mem_append.1 hz with h | h
              · exact Cl.cl z h
              · have : z = pc := by simpa using h
                rw [this]; exact hcell
  have N0 : New w.heap h3 (HR2 s l Z v0 none 0 [] none 0 []) := by
    refine B0.conv (fun P => ⟨⟨P, sl_nil 1 _ _, fun b e e' => absurd e' (sl_nil_fp b)⟩, sl_nil 1 _ _, fun b e e' => absurd e' (sl_nil_fp b)⟩) fun b e => ?_
    rcases e with (e | e) | e
    · exact e
    · exact absurd e (sl_nil_fp b)
    · exact absurd e (sl_nil_fp b)
  exact loop n 0 v0 [] [] none none 0 0 h3 (by omega) Inv.nil ⟨fun p hp => (by cases hp), List.nodup_nil, fun p hp => (by cases hp), fun q _ _ => ⟨rfl, rfl⟩⟩ N0
end
end Go.Proofs.Ytfijahblggnbbaa
