/- croftref6: where its pool lies: free lists order by order, the live blocks; push, without. No condition. -/
import Derived.Test.YtippbfnhgooepaaZC8
import Derived.Test.YtippbfnhgooepaaZM2
set_option linter.unusedSimpArgs false
set_option linter.unusedVariables false
namespace Go.Proofs.Ytippbfnhgooepaa
open Go.V Classical

def f6 (v0 v1 v2 v3 v4 v5 : Value) : Nat → Value
  | 0 => v0
  | 1 => v1
  | 2 => v2
  | 3 => v3
  | 4 => v4
  | _ => v5

theorem box6 (h : Heap) (v0 v1 v2 v3 v4 v5 : Value) (T : TypeId) : New h (h.push (.cells #[v0, v1, v2, v3, v4, v5] T)) (blkR h.size 6 (f6 v0 v1 v2 v3 v4 v5)) :=
  (New.box h #[v0, v1, v2, v3, v4, v5] T).conv (fun P => Blk.congr P fun i hi => by
    have hi : i < 6 := hi
    have : i = 0 ∨ i = 1 ∨ i = 2 ∨ i = 3 ∨ i = 4 ∨ i = 5 := by omega
    rcases this with rfl | rfl | rfl | rfl | rfl | rfl <;> rfl) fun _ e => e

theorem assign6 {h : Heap} {b : Nat} {f : Nat → Value} (B : Blk h b 6 f) (v0 v1 v2 v3 v4 v5 : Value) : WrN h ⟨b, 0, none⟩ 6 ∧ Stp h (setCs h ⟨b, 0, none⟩ 0 [v0, v1, v2, v3, v4, v5]) (blkR b 6 f) (blkR b 6 (f6 v0 v1 v2 v3 v4 v5)) := by
  refine ⟨fun j hj => by rw [add_mk]; exact B.wr (by omega), Stp.sets B [v0, v1, v2, v3, v4, v5] 0 0 fun j hj => ?_⟩
  rw [if_pos ⟨by omega, by simpa using hj⟩]
  have : j = 0 ∨ j = 1 ∨ j = 2 ∨ j = 3 ∨ j = 4 ∨ j = 5 := by omega
  rcases this with rfl | rfl | rfl | rfl | rfl | rfl <;> rfl

theorem f6_cells {h : Heap} {b : Nat} {v0 v1 v2 v3 v4 v5 : Value} (B : (blkR b 6 (f6 v0 v1 v2 v3 v4 v5)).P h) : cellAt h ⟨b, 0, none⟩ = some v0 ∧ cellAt h ((⟨b, 0, none⟩ : Addr).add 1) = some v1 ∧ cellAt h ((⟨b, 0, none⟩ : Addr).add 2) = some v2 ∧ cellAt h ((⟨b, 0, none⟩ : Addr).add 3) = some v3 ∧
    cellAt h ((⟨b, 0, none⟩ : Addr).add 4) = some v4 ∧ cellAt h ((⟨b, 0, none⟩ : Addr).add 5) = some v5 :=
  ⟨B.cell (i := 0) (by omega), by rw [add_mk]; exact B.cell (i := 1) (by omega), by rw [add_mk]; exact B.cell (i := 2) (by omega), by rw [add_mk]; exact B.cell (i := 3) (by omega), by rw [add_mk]; exact B.cell (i := 4) (by omega), by rw [add_mk]; exact B.cell (i := 5) (by omega)⟩

theorem f6_set3 {h : Heap} {b : Nat} {v0 v1 v2 v3 v4 v5 : Value} (B : Blk h b 6 (f6 v0 v1 v2 v3 v4 v5)) (v : Value) :
    Wr h ((⟨b, 0, none⟩ : Addr).add 3) ∧ Stp h (setC h ((⟨b, 0, none⟩ : Addr).add 3) v) (blkR b 6 (f6 v0 v1 v2 v3 v4 v5)) (blkR b 6 (f6 v0 v1 v2 v v4 v5)) := by
  rw [add_mk, Nat.zero_add]
  refine ⟨B.wr (by omega), Stp.set B _ v fun j hj => ?_⟩
  have : j = 0 ∨ j = 1 ∨ j = 2 ∨ j = 3 ∨ j = 4 ∨ j = 5 := by omega
  rcases this with rfl | rfl | rfl | rfl | rfl | rfl <;> rfl

theorem f6_set5 {h : Heap} {b : Nat} {v0 v1 v2 v3 v4 v5 : Value} (B : Blk h b 6 (f6 v0 v1 v2 v3 v4 v5)) (v : Value) :
    Wr h ((⟨b, 0, none⟩ : Addr).add 5) ∧ Stp h (setC h ((⟨b, 0, none⟩ : Addr).add 5) v) (blkR b 6 (f6 v0 v1 v2 v3 v4 v5)) (blkR b 6 (f6 v0 v1 v2 v3 v4 v)) := by
  rw [add_mk, Nat.zero_add]
  refine ⟨B.wr (by omega), Stp.set B _ v fun j hj => ?_⟩
  have : j = 0 ∨ j = 1 ∨ j = 2 ∨ j = 3 ∨ j = 4 ∨ j = 5 := by omega
  rcases this with rfl | rfl | rfl | rfl | rfl | rfl <;> rfl

def nV (l : List Nat) : Nat → Value := fun i => .int .i64 ((l.getD i 0 : Nat) : Int)

theorem nV_snoc (l : List Nat) (e : Nat) {i : Nat} (hi : i < (l.length + 1) * 1) : (if i = l.length then Value.int .i64 (e : Int) else nV l i) = nV (l ++ [e]) i := by
  unfold nV
  rw [List.getD_eq_getElem?_getD, List.getD_eq_getElem?_getD]
  by_cases h : i = l.length
  · subst h; rw [if_pos rfl]; simp
  · rw [if_neg h, List.getElem?_append_left (by omega)]

structure RW6 where
  fp : Option Addr
  fc : Nat
  lp : Nat → Option Addr
  lc : Nat → Nat
  vp : Option Addr
  vc : Nat

abbrev prV (b : PBk) : Int × Int := ((b.1 : Int), (b.2 : Int))
abbrev prL (L : List PBk) : List (Int × Int) := L.map prV
abbrev frR (Y : RW6) (O : Nat) (fl : Nat → List Nat) : Res := andR (slR Y.fp (O + 1) Y.fc 1 fun k => .slice (Y.lp k) (fl k).length (Y.lc k)) (allR (O + 1) fun k => slR (Y.lp k) (fl k).length (Y.lc k) 1 (nV (fl k)))
abbrev liR (Y : RW6) (L : List PBk) : Res := slR Y.vp L.length Y.vc 2 (runV (prL L))
abbrev rfR (Y : RW6) (O : Nat) (fl : Nat → List Nat) (L : List PBk) : Res := andR (frR Y O fl) (liR Y L)
abbrev pvF (c : Cfg) (r : Nat) (Y : RW6) (O : Nat) (L : List PBk) : Nat → Value := f6 (.int .u64 c.base) (.int .i64 c.limit) (.int .i64 c.order) (.int .i64 (r : Int)) (.slice Y.fp (O + 1) Y.fc) (.slice Y.vp L.length Y.vc)
abbrev pv (c : Cfg) (r : Nat) (Y : RW6) (O : Nat) (L : List PBk) : Value := .agg #[.int .u64 c.base, .int .i64 c.limit, .int .i64 c.order, .int .i64 (r : Int), .slice Y.fp (O + 1) Y.fc, .slice Y.vp L.length Y.vc]
abbrev zF : Nat → Value := f6 (.int .u64 0) (.int .i64 0) (.int .i64 0) (.int .i64 0) (.slice none 0 0) (.slice none 0 0)

theorem at1 (b k : Nat) : (⟨b, 0, none⟩ : Addr).add (Int.toNat (k : Int) * 1) = ⟨b, k, none⟩ := by rw [add_mk, Int.toNat_natCast, Nat.mul_one, Nat.zero_add]

section
variable {w₀ : World} {h h0 hx : Heap} {K : Value → Heap → Prop} {Y : RW6} {O : Nat} {fl : Nat → List Nat} {L : List PBk}

theorem fr_cell (H : (frR Y O fl).P h) {k : Nat} (hk : k ≤ O) : ∃ b, Y.fp = some ⟨b, 0, none⟩ ∧ cellAt h ⟨b, k, none⟩ = some (.slice (Y.lp k) (fl k).length (Y.lc k)) := sl_cell H.1 (i := k) (by omega)

theorem fr_row (H : (frR Y O fl).P h) {k : Nat} (hk : k ≤ O) : (slR (Y.lp k) (fl k).length (Y.lc k) 1 (nV (fl k))).P h := H.2.1.1 k (by omega)

theorem fr_put {k : Nat} {l' : List Nat} {p' : Option Addr} {c' : Nat} (hk : k ≤ O) (H : (andR (slR p' l'.length c' 1 (nV l')) (frR Y O fl)).P h) :
    ∃ b, Y.fp = some ⟨b, 0, none⟩ ∧ Wr h ⟨b, k, none⟩ ∧ Stp h (setC h ⟨b, k, none⟩ (.slice p' l'.length c')) (andR (slR p' l'.length c' 1 (nV l')) (frR Y O fl)) (frR { Y with lp := fset Y.lp k p', lc := fset Y.lc k c' } O (fset fl k l')) := by
  obtain ⟨HN, ⟨H1, H2, H3⟩, H4⟩ := H
  obtain ⟨b, e, w, S⟩ := sl_set H1 (o := k) (by omega) (.slice p' l'.length c')
  have hb : (slR Y.fp (O + 1) Y.fc 1 fun k => .slice (Y.lp k) (fl k).length (Y.lc k)).fp b := e
  have old : ∀ i, i < O + 1 → i ≠ k → ((slR (fset Y.lp k p' i) (fset fl k l' i).length (fset Y.lc k c' i) 1 (nV (fset fl k l' i))) = slR (Y.lp i) (fl i).length (Y.lc i) 1 (nV (fl i))) := fun i _ hi => by rw [fset_ne _ _ hi, fset_ne _ _ hi, fset_ne _ _ hi]
  have new : ((slR (fset Y.lp k p' k) (fset fl k l' k).length (fset Y.lc k c' k) 1 (nV (fset fl k l' k))) = slR p' l'.length c' 1 (nV l')) := by rw [fset_same, fset_same, fset_same]
  refine ⟨b, e, w, ⟨S.u.mono fun x ex _ => .inr (.inl ex), ⟨sl_congr S.p fun i hi => ?_, ⟨fun i hi => ?_, fun i hi j hj hij x ex ex' => ?_⟩, fun x ex ⟨i, hi, ex'⟩ => ?_⟩, fun x ex => .inl ?_⟩⟩
  · by_cases ei : i = k
    · subst ei
      rw [if_pos rfl]
      show _ = Value.slice (fset Y.lp i p' i) (fset fl i l' i).length (fset Y.lc i c' i)
      rw [fset_same, fset_same, fset_same]
    · rw [if_neg ei]
      show _ = Value.slice (fset Y.lp k p' i) (fset fl k l' i).length (fset Y.lc k c' i)
      rw [fset_ne _ _ ei, fset_ne _ _ ei, fset_ne _ _ ei]
  · by_cases ei : i = k
    · subst ei
      show (slR (fset Y.lp i p' i) (fset fl i l' i).length (fset Y.lc i c' i) 1 (nV (fset fl i l' i))).P _
      rw [new]
      exact Res.st _ HN S.u fun x ex ex' => H4 x ex (.inl ex')
    · show (slR (fset Y.lp k p' i) (fset fl k l' i).length (fset Y.lc k c' i) 1 (nV (fset fl k l' i))).P _
      rw [old i hi ei]
      exact Res.st _ (H2.1 i hi) S.u fun x ex ex' => H3 x ex' ⟨i, hi, ex⟩
  · have f1 : (slR (fset Y.lp k p' i) (fset fl k l' i).length (fset Y.lc k c' i) 1 (nV (fset fl k l' i))).fp x := ex
    have f2 : (slR (fset Y.lp k p' j) (fset fl k l' j).length (fset Y.lc k c' j) 1 (nV (fset fl k l' j))).fp x := ex'
    clear ex ex'
    by_cases ei : i = k
    · have ej : j ≠ k := fun e => hij (ei.trans e.symm)
      rw [old j hj ej] at f2
      subst ei
      rw [new] at f1
      exact H4 x f1 (.inr ⟨j, hj, f2⟩)
    · rw [old i hi ei] at f1
      by_cases ej : j = k
      · subst ej
        rw [new] at f2
        exact H4 x f2 (.inr ⟨i, hi, f1⟩)
      · rw [old j hj ej] at f2
        exact H2.2 i hi j hj hij x f1 f2
  · have ex' : (slR (fset Y.lp k p' i) (fset fl k l' i).length (fset Y.lc k c' i) 1 (nV (fset fl k l' i))).fp x := ex'
    by_cases ei : i = k
    · subst ei
      rw [new] at ex'
      exact H4 x ex' (.inl ex)
    · rw [old i hi ei] at ex'
      exact H3 x ex ⟨i, hi, ex'⟩
  · rcases ex with ex | ⟨i, hi, ex⟩
    · exact .inr (.inl ex)
    · have ex : (slR (fset Y.lp k p' i) (fset fl k l' i).length (fset Y.lc k c' i) 1 (nV (fset fl k l' i))).fp x := ex
      by_cases ei : i = k
      · subst ei
        rw [new] at ex
        exact .inl ex
      · rw [old i hi ei] at ex
        exact .inr (.inr ⟨i, hi, ex⟩)

theorem push6_ok {lp : Option Addr} {lc : Nat} {l : List Nat} {q : Nat} (hl : l.length ≤ 100000) (R : Row h lp (l.length * 1) (nV l))
    (hK : ∀ h' p' c', New h h' (slR p' (q :: l).length c' 1 (nV (q :: l))) → K (.slice p' (q :: l).length c') h') :
    CallV Try.prog w₀ F.croftref6_push [.slice lp l.length lc, .int .i64 (q : Int)] h K := by
  refine croftref6_push.call ?_
  unfold croftref6_push.vc
  have N1 := sl_lit h #[.int .i64 (q : Int)] T.T_int 1 1 rfl
  generalize Array.push h (.cells #[.int .i64 (q : Int)] T.T_int) = h1 at N1 ⊢
  have R1 := R.upd N1.u fun _ _ => id
  obtain ⟨os, q1, q2⟩ := sl_app (zs := [.int .i64 0]) (xs := lst (l.length * 1) (nV l)) (m := l.length) (b := 8) (e := T.T_int) (q := lp) N1.p (by decide) (by simp) R1.rowAt (by
    intro v hv
    unfold lst at hv
    obtain ⟨i, _, rfl⟩ := List.mem_map.1 hv
    rfl) (by omega)
  refine ⟨os, _, q1, fun p' c' h' res => ?_⟩
  have S := q2 p' c' h' res
  have e : (q :: l).length = 1 + l.length := by simp; omega
  have := hK h' p' c' (N1.stp (S.conv (R2 := slR p' (q :: l).length c' 1 (nV (q :: l))) (fun A => by
    rw [e]
    refine sl_congr A fun i hi => ?_
    show (if i < 1 * 1 then _ else _) = nV (q :: l) i
    rcases Nat.eq_zero_or_pos i with h0 | h0
    · subst h0; rfl
    · rw [if_neg (by omega)]
      obtain ⟨j, rfl⟩ : ∃ j, i = j + 1 := ⟨i - 1, by omega⟩
      show (lst (l.length * 1) (nV l)).getD (j + 1 - 1) undef = _
      rw [Nat.add_sub_cancel, lst_getD (by omega)]
      unfold nV
      rw [List.getD_cons_succ]) fun _ x => x))
  rw [e] at this
  exact this

theorem without6_ok {lp : Option Addr} {lc : Nat} {l : List Nat} {q : Nat} (hl : l.length ≤ 100000) (R : Row h lp (l.length * 1) (nV l))
    (hK : ∀ h' p' c', New h h' (slR p' (l.filter (· ≠ q)).length c' 1 (nV (l.filter (· ≠ q)))) → K (.tuple #[.slice p' (l.filter (· ≠ q)).length c', .bool (decide (q ∈ l))]) h') :
    CallV Try.prog w₀ F.croftref6_without [.slice lp l.length lc, .int .i64 (q : Int)] h K := by
  refine croftref6_without.call ?_
  unfold croftref6_without.vc
  intro J1 hJ1 L2 hL2
  have key : ∀ (d i : Nat) (y : Option Addr) (cap : Nat) (hx : Heap), i + d = l.length → Hold h hx [slR y ((l.take i).filter (· ≠ q)).length cap 1 (nV ((l.take i).filter (· ≠ q)))] →
      L2 [.slice lp l.length lc, .int .i64 (q : Int), .slice y ((l.take i).filter (· ≠ q)).length cap, .bool (decide (q ∈ l.take i)), .int .i64 (i : Int)] hx := by
    intro d
    induction d with
    | zero =>
      intro i y cap hx hi I
      have hi : i = l.length := by omega
      subst hi
      rw [List.take_length] at I ⊢
      exact hL2 _ _ _ _ _ _ _ _ _ _ (iF (decide_eq_false (by omega)) (hJ1 _ _ _ _ _ (hK hx y cap I.toNew)))
    | succ d ih =>
      intro i y cap hx hi I
      have hil : i < l.length := by omega
      have htk : l.take (i + 1) = l.take i ++ [l.getD i 0] := by
        rw [List.take_add_one, List.getD_eq_getElem?_getD, List.getElem?_eq_getElem hil]; rfl
      have hwr : IntKind.wrap .i64 ((i : Int) + 1) = ((i + 1 : Nat) : Int) := by rw [IntKind.wrap_i64]; omega
      have hc : ∃ a, lp = some a ∧ cellAt hx (a.add (Int.toNat (i : Int) * 1)) = some (.int .i64 ((l.getD i 0 : Nat) : Int)) := by
        rcases R with e | ⟨b, off, rfl, R⟩
        · omega
        · refine ⟨_, rfl, ?_⟩
          rw [add_mk, Int.toNat_natCast, Nat.mul_one]
          exact cellAt_upd (R i (by omega)) I.u fun e => e
      obtain ⟨a, e1, r1⟩ := hc
      refine hL2 _ _ _ _ _ _ _ _ _ _ (iT (decide_eq_true (by omega)) fun J3 hJ3 => ⟨a, e1, by omega, by omega, _, r1, ?_⟩)
      by_cases hne : l.getD i 0 = q
      · have ef : (l.take (i + 1)).filter (· ≠ q) = (l.take i).filter (· ≠ q) := by rw [htk, List.filter_append]; generalize l.getD i 0 = e at hne ⊢; simp [hne]
        have eb : decide (q ∈ l.take (i + 1)) = true := decide_eq_true (by rw [htk]; exact List.mem_append_right _ (by rw [hne]; simp))
        refine iT (by rw [hne]; exact beq_self_eq_true _) (hJ3 _ _ _ _ _ _ _ _ _ _ ?_)
        rw [hwr]
        have := ih (i + 1) y cap hx (by omega) (by rw [ef]; exact I)
        rw [ef, eb] at this
        exact this
      · have ef : (l.take (i + 1)).filter (· ≠ q) = (l.take i).filter (· ≠ q) ++ [l.getD i 0] := by rw [htk, List.filter_append]; generalize l.getD i 0 = e at hne ⊢; simp [hne]
        have eb : decide (q ∈ l.take (i + 1)) = decide (q ∈ l.take i) := by
          rw [htk]
          have : (q ∈ l.take i ++ [l.getD i 0]) ↔ q ∈ l.take i := by
            rw [List.mem_append]
            exact ⟨fun h => h.elim id fun h => absurd (List.mem_singleton.1 h).symm hne, .inl⟩
          exact decide_eq_decide.2 this
        refine iF (beq_false_of_ne (by omega)) ⟨a, e1, by omega, by omega, _, r1, ?_⟩
        have hfl : ((l.take i).filter (· ≠ q)).length ≤ l.length := Nat.le_trans (List.length_filter_le _ _) (by simp; omega)
        obtain ⟨os, q1, q2⟩ := sl_app1 (zs := [.int .i64 0]) (v := .int .i64 ((l.getD i 0 : Nat) : Int)) (b := 8) (e := T.T_int) (T := T.T_int) (I.at 0) rfl rfl (by omega)
        refine ⟨os, _, q1, fun p' c' h29 hres => hJ3 _ _ _ _ _ _ _ _ _ _ ?_⟩
        have I2 := I.step 0 (R := slR y ((l.take i).filter (· ≠ q)).length cap 1 (nV ((l.take i).filter (· ≠ q)))) (R' := slR p' (((l.take i).filter (· ≠ q)).length + 1) c' 1 (nV ((l.take i).filter (· ≠ q) ++ [l.getD i 0])))
          ((q2 p' c' h29 hres).conv (fun P => sl_congr P fun j hj => nV_snoc _ (l.getD i 0) hj) fun _ e => e)
        rw [hwr]
        have := ih (i + 1) p' c' h29 (by omega) (by rw [ef, List.length_append]; exact I2)
        rw [ef, List.length_append, eb] at this
        exact this
  exact key l.length 0 none 0 h (by omega) ((Hold.nil h).new ⟨Upd.refl _ _, sl_nil _ _ _, fun b e => absurd e (sl_nil_fp b)⟩)
end
end Go.Proofs.Ytippbfnhgooepaa
