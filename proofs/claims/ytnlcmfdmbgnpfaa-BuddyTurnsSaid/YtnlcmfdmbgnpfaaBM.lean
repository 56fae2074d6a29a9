/- croftlaw5: a deed. No condition. -/
import Derived.Test.YtnlcmfdmbgnpfaaBL
set_option linter.unusedSimpArgs false
set_option linter.unusedVariables false
namespace Go.Proofs.Ytnlcmfdmbgnpfaa
open Go.V Classical

abbrev wbR (c : Cfg) (Q : WW) (x : BU) (bp : Option Addr) (bc : Nat) (l : List Bk) : Res := andR (wsR c Q x) (slR bp l.length bc 3 (bkV l))

section
variable {w₀ : World} {h : Heap} {K : Value → Heap → Prop} {c : Cfg} {Q : WW} {x : BU} {fl : Nat → List Nat} {l : List Bk} {bp : Option Addr} {bc : Nat}

theorem do_ok (W : WI c x fl (lvB l)) (hl : l.length ≤ 100000) (H : (wbR c Q x bp bc l).P h) {op od wh : Int}
    (hK : ∀ x' fl' l' Q' h' bp' bc', Q'.wb = Q.wb → WI c x' fl' (lvB l') → Stay x.st x'.st l l' → l'.length ≤ l.length + 1 → Stp h h' (wbR c Q x bp bc l) (wbR c Q' x' bp' bc' l') → K (.tuple #[bkv bp' l'.length bc', .bool true]) h') :
    CallV Try.prog w₀ F.croftlaw5_do [.pointer (some ⟨Q.wb, 0, none⟩), bkv bp l.length bc, .agg #[.int .i64 op, .int .i64 od, .int .i64 wh]] h K := by
  refine croftlaw5_do.call ?_
  unfold croftlaw5_do.vc
  have o8 := W.ok.m.o8
  have n1 := W.ok.m.n1
  have hxo := W.ok.o
  have hnr := W.nr
  have N1 := box1 h (.slice bp l.length bc) T.T_croftlaw5_book
  generalize Array.push h (.cells #[.slice bp l.length bc] T.T_croftlaw5_book) = h1 at N1 ⊢
  have N2 := box3 h1 (.int .i64 op) (.int .i64 od) (.int .i64 wh) T.T_croftlaw5_Deed
  generalize Array.push h1 (.cells #[.int .i64 op, .int .i64 od, .int .i64 wh] T.T_croftlaw5_Deed) = h2 at N2 ⊢
  have N3 := box1 h2 (.slice none 0 0) T.T_croftlaw5_book
  generalize Array.push h2 (.cells #[.slice none 0 0] T.T_croftlaw5_book) = h3 at N3 ⊢
  obtain ⟨b0, eb0⟩ : ∃ b0, b0 = h.size := ⟨_, rfl⟩
  obtain ⟨b1, eb1⟩ : ∃ b1, b1 = h1.size := ⟨_, rfl⟩
  obtain ⟨b2, eb2⟩ : ∃ b2, b2 = h2.size := ⟨_, rfl⟩
  rw [← eb0] at N1 ⊢
  rw [← eb1] at N2 ⊢
  rw [← eb2] at N3 ⊢
  have I := ((((Go.V.Own.of H).split).new N1).new N2).new N3
  obtain ⟨d0, d1, d2⟩ := f3_cells (I.at 1)
  refine ⟨_, _, _, f1_cell (I.at 2), fun J4 hJ4 => ?_⟩
  have main : ∀ wi : Nat, (0 < l.length → wi < l.length) → J4 [.pointer (some ⟨Q.wb, 0, none⟩), .pointer (some ⟨b0, 0, none⟩), .pointer (some ⟨b1, 0, none⟩), .pointer (some ⟨b2, 0, none⟩), .int .i64 (l.length : Int), .int .i64 (wi : Int)] h3 := by
    intro wi hwi
    refine hJ4 _ _ _ _ _ _ _ fun J5 hJ5 => ?_
    have main5 : ∀ o : Nat, o ≤ x.m.o → J5 [.pointer (some ⟨Q.wb, 0, none⟩), .pointer (some ⟨b0, 0, none⟩), .pointer (some ⟨b1, 0, none⟩), .pointer (some ⟨b2, 0, none⟩), .int .i64 (l.length : Int), .int .i64 (wi : Int), .int .i64 (o : Int)] h3 := by
      intro o ho
      refine hJ5 _ _ _ _ _ _ _ _ ⟨_, d0, fun J6 hJ6 => ?_⟩
      have main6 : ∀ b : Bool, J6 [.pointer (some ⟨Q.wb, 0, none⟩), .pointer (some ⟨b0, 0, none⟩), .pointer (some ⟨b1, 0, none⟩), .pointer (some ⟨b2, 0, none⟩), .int .i64 (l.length : Int), .int .i64 (wi : Int), .int .i64 (o : Int), .int .i64 op, .bool b] h3 := by
        intro b
        have hbn := W.bnd
        have ewo : IntKind.wrap .u64 (o : Int) = (o : Int) := by rw [IntKind.wrap_u64]; omega
        have ho8 : o ≤ 8 := by omega
        have h8 := pow8 ho8
        refine hJ6 _ _ _ _ _ _ _ _ _ _ ?_
        constructor
        · intro _
          refine ⟨_, rfl, _, wd_cell (I.at 3) (i := 5) (by omega), takeW W (I.at 3) ho ?_ ?_⟩
          · intro hF h4 S4
            have I4 := I.step 3 S4
            refine ⟨_, _, rfl, _, _, _, f1_cell (I4.at 2), _, rfl, _, wd_cell (I4.at 3) (i := 7) (by omega), stuck_ok (by omega) (sl_row (I4.at 4)) hbn n1 ho8 fun h5 u5 => ⟨_, rfl, iT rfl ?_⟩⟩
            have I5 := I4.quiet u5
            rw [decide_eq_true (stuck_yes W ho hF)]
            refine ⟨_, _, _, f1_cell (I5.at 2), fun J9 hJ9 => qT rfl (hJ9 _ _ fun J10 hJ10 => qT rfl (hJ10 _ _ ?_))⟩
            obtain ⟨w6, S6⟩ := f1_set (I5.at 0) (.slice bp l.length bc)
            have I6 := I5.step 0 S6
            exact ⟨w6, _, _, _, f1_cell (I6.at 0), hK x fl l Q _ bp bc rfl W (.inl ⟨Nat.le_refl _, id⟩) (by omega) (I6.two 3 4)⟩
          · intro j p ll j1 j2 hF hi x' h4 W' M S4
            obtain ⟨hst, hme⟩ := stuck_no W' M.n
            have al := W'.al (List.mem_cons_self ..)
            simp only [] at al
            have n1' := W'.ok.m.n1
            have hp9 : p + 2 ^ o ≤ x.m.n := by have := al.2.2; rw [M.n] at this; exact this
            have I4 := I.step 3 S4
            refine ⟨_, _, rfl, _, _, _, f1_cell (I4.at 2), _, rfl, _, wd_cell (I4.at 3) (i := 7) (by omega), ?_⟩
            rw [M.n]
            refine stuck_ok (by omega) (sl_row (I4.at 4)) hbn n1 ho8 fun h5 u5 => ⟨_, rfl, iF rfl ?_⟩
            have I5 := I4.quiet u5
            rw [decide_eq_false hst]
            refine page_ok (adr_u64 W'.g W'.ok.m (by omega)) W'.ok (I5.at 3) ?_
            rw [pageU_adr W'.g (by omega)]
            have emod : Int.tmod (p : Int) ((2 ^ o : Nat) : Int) = 0 := by
              rw [Int.tmod_eq_emod_of_nonneg (by omega), ← Int.natCast_emod, al.2.1]; rfl
            have esum : IntKind.wrap .i64 ((p : Int) + ((2 ^ o : Nat) : Int)) = ((p + 2 ^ o : Nat) : Int) := by rw [IntKind.wrap_i64]; omega
            refine ⟨(p : Int), rfl, fun J13 hJ13 => pF rfl (hJ13 _ _ fun J14 hJ14 => pF (decide_eq_false (by omega)) ⟨by rw [ewo]; omega, by rw [ewo, shl1 ho8]; omega, hJ14 _ _ fun J15 hJ15 => ?_⟩)⟩
            refine pF (eq_b (by rw [ewo, shl1 ho8]; exact emod)) ⟨by rw [ewo]; omega, _, rfl, _, wd_cell (I5.at 3) (i := 7) (by omega), hJ15 _ _ fun J16 hJ16 => ?_⟩
            have hgt : ¬ (IntKind.wrap .i64 ((p : Int) + IntKind.wrap .i64 ((1 : Int) * 2 ^ min (Int.toNat (IntKind.wrap .u64 (o : Int))) (IntKind.bits .i64))) > (x'.m.n : Int)) := by rw [ewo, shl1 ho8, esum]; have := al.2.2; omega
            refine pF (decide_eq_false hgt) ⟨_, _, _, f1_cell (I5.at 2), meets_ok (by omega) (sl_row (I5.at 4)) hbn (by omega) ho8 fun h6 u6 => ⟨_, rfl, hJ16 _ _ (iF hme ?_)⟩⟩
            have I6 := I5.quiet u6
            obtain ⟨m0, hm0⟩ : ∃ m0, m0 = IntKind.wrap .u8 (IntKind.wrap .i64 ((IntKind.wrap .i64 ((l.length : Int) * 7)) + wh)) := ⟨_, rfl⟩
            have hm1 : 0 ≤ m0 ∧ m0 < 256 := by rw [hm0, IntKind.wrap_u8]; omega
            intro J18 hJ18
            have R6 : Go.V.Own h h6 (wbR c Q x bp bc l) [blkR b2 1 fun _ => .slice none 0 0, blkR b1 3 (f3 (.int .i64 op) (.int .i64 od) (.int .i64 wh)), blkR b0 1 fun _ => .slice bp l.length bc, wsR c Q x', slR bp l.length bc 3 (bkV l)] := I6
            refine ⟨_, _, _, f1_cell (R6.at 2), _, _, _, f1_cell (R6.at 2), _, (f3_cells (R6.at 1)).2.2, ?_⟩
            rw [← hm0]
            have fin : ∀ {hx : Heap} {p' : Option Addr} {c' : Nat}, Go.V.Own h hx (wbR c Q x bp bc l) [slR p' (l.length + 1) c' 3 (bkV (l ++ [⟨p, o, m0⟩])), blkR b2 1 (fun _ => .slice none 0 0), wsR c Q x'] →
                Wr hx ⟨b2, 0, none⟩ ∧ J18 [.pointer (some ⟨b2, 0, none⟩), .bool true] (setC hx ⟨b2, 0, none⟩ (.slice p' (0 + l.length + 1) c')) := by
              intro hx p' c' J
              obtain ⟨w9, S9⟩ := f1_set (J.at 1) (.slice p' (0 + l.length + 1) c')
              have J9 := J.step 1 S9
              have el : (l ++ [(⟨p, o, m0⟩ : Bk)]).length = l.length + 1 := by simp
              refine ⟨w9, hJ18 _ _ _ ⟨_, _, _, f1_cell (J9.at 1), ?_⟩⟩
              have e0 : 0 + l.length + 1 = (l ++ [(⟨p, o, m0⟩ : Bk)]).length := by rw [el, Nat.zero_add]
              rw [e0]
              refine hK x' _ (l ++ [⟨p, o, m0⟩]) Q _ p' c' rfl (W'.perm ?_) (.inr ⟨⟨p, o, m0⟩, rfl, hm1, fun hmk => hmk.kept M.k⟩) (by rw [el]; exact Nat.le_refl _) ?_
              · show ((p, o) :: lvB l).Perm (lvB (l ++ [⟨p, o, m0⟩]))
                unfold lvB
                rw [List.map_append]
                exact (List.perm_append_comm (l₁ := [(p, o)]))
              · have e1 : (slR p' (l.length + 1) c' 3 (bkV (l ++ [⟨p, o, m0⟩]))) = slR p' (l ++ [(⟨p, o, m0⟩ : Bk)]).length c' 3 (bkV (l ++ [⟨p, o, m0⟩])) := by rw [el]
                have J10 := J9
                rw [e1, e0] at J10
                exact J10.two 2 0
            refine ⟨?_, ?_⟩
            · have N7 := sl_lit h6 #[] T.T_croftlaw5_block 0 3 rfl
              generalize Array.push h6 (.cells #[] T.T_croftlaw5_block) = h7 at N7 ⊢
              have R7 := R6.new N7
              refine ⟨(f3_cells (R7.at 2)).2.2, f1_cell (R7.at 3), f1_cell (R7.at 3), ?_, ?_⟩
              · obtain ⟨os, q1, q2⟩ := copy_ok (l := l) (by omega) (R7.at 0) (sl_row (R7.at 5))
                refine ⟨os, _, q1, fun p1 c1 h8 hres => ?_⟩
                have R8 := R7.step 0 (q2 p1 c1 h8 hres)
                refine ⟨(f3_cells (R8.at 2)).2.2, f1_cell (R8.at 3), ?_⟩
                have N9 := box3 h8 (.int .i64 (p : Int)) (.int .i64 (o : Int)) (.int .u8 m0) T.T_croftlaw5_block
                generalize Array.push h8 (.cells #[.int .i64 (p : Int), .int .i64 (o : Int), .int .u8 m0] T.T_croftlaw5_block) = h9 at N9 ⊢
                have R9 := R8.new N9
                refine ⟨f1_cell (R9.at 4), ?_⟩
                obtain ⟨os', q3, q4⟩ := add_ok (l := l) (n := 0 + l.length) (b := ⟨p, o, m0⟩) (Nat.zero_add _) (by omega) (R9.at 1) (row_f3 (R9.at 0))
                refine ⟨os', _, q3, fun p2 c2 h10 hres2 => fin ?_⟩
                have R10 := R9.step 1 (q4 p2 c2 h10 hres2)
                exact R10.sub (.cons _ (.cons_cons _ (.cons_cons _ (.cons _ (.cons _ (.cons_cons _ (.cons _ .slnil)))))))
              · have N9 := box3 h7 (.int .i64 (p : Int)) (.int .i64 (o : Int)) (.int .u8 m0) T.T_croftlaw5_block
                generalize Array.push h7 (.cells #[.int .i64 (p : Int), .int .i64 (o : Int), .int .u8 m0] T.T_croftlaw5_block) = h9 at N9 ⊢
                have R9 := R7.new N9
                refine ⟨f1_cell (R9.at 4), ?_⟩
                obtain ⟨os, q1, q2⟩ := copy_ok (l := l) (by omega) (R9.at 1) (sl_row (R9.at 6))
                refine ⟨os, _, q1, fun p1 c1 h8 hres => ?_⟩
                have R8 := R9.step 1 (q2 p1 c1 h8 hres)
                refine ⟨(f3_cells (R8.at 3)).2.2, f1_cell (R8.at 4), ?_⟩
                obtain ⟨os', q3, q4⟩ := add_ok (l := l) (n := 0 + l.length) (b := ⟨p, o, m0⟩) (Nat.zero_add _) (by omega) (R8.at 1) (row_f3 (R8.at 0))
                refine ⟨os', _, q3, fun p2 c2 h10 hres2 => fin ?_⟩
                have R10 := R8.step 1 (q4 p2 c2 h10 hres2)
                exact R10.sub (.cons _ (.cons_cons _ (.cons_cons _ (.cons _ (.cons _ (.cons_cons _ (.cons _ .slnil)))))))
            · have N7 := box3 h6 (.int .i64 (p : Int)) (.int .i64 (o : Int)) (.int .u8 m0) T.T_croftlaw5_block
              generalize Array.push h6 (.cells #[.int .i64 (p : Int), .int .i64 (o : Int), .int .u8 m0] T.T_croftlaw5_block) = h7 at N7 ⊢
              have R7 := R6.new N7
              refine ⟨f1_cell (R7.at 3), ?_⟩
              have N9 := sl_lit h7 #[] T.T_croftlaw5_block 0 3 rfl
              generalize Array.push h7 (.cells #[] T.T_croftlaw5_block) = h9 at N9 ⊢
              have R9 := R7.new N9
              refine ⟨(f3_cells (R9.at 3)).2.2, f1_cell (R9.at 4), f1_cell (R9.at 4), ?_⟩
              obtain ⟨os, q1, q2⟩ := copy_ok (l := l) (by omega) (R9.at 0) (sl_row (R9.at 6))
              refine ⟨os, _, q1, fun p1 c1 h8 hres => ?_⟩
              have R8 := R9.step 0 (q2 p1 c1 h8 hres)
              refine ⟨(f3_cells (R8.at 3)).2.2, f1_cell (R8.at 4), ?_⟩
              obtain ⟨os', q3, q4⟩ := add_ok (l := l) (n := 0 + l.length) (b := ⟨p, o, m0⟩) (Nat.zero_add _) (by omega) (R8.at 0) (row_f3 (R8.at 1))
              refine ⟨os', _, q3, fun p2 c2 h10 hres2 => fin ?_⟩
              have R10 := R8.step 0 (q4 p2 c2 h10 hres2)
              exact R10.sub (.cons_cons _ (.cons _ (.cons_cons _ (.cons _ (.cons _ (.cons_cons _ (.cons _ .slnil)))))))
        · intro _ J34 hJ34
          have put : ∀ {hx : Heap} {rs : List Res} {v : Value} (v' : Value), Go.V.Own h hx (wbR c Q x bp bc l) (blkR b2 1 (fun _ => v) :: rs) → Wr hx ⟨b2, 0, none⟩ ∧ Go.V.Own h (setC hx ⟨b2, 0, none⟩ v') (wbR c Q x bp bc l) (blkR b2 1 (fun _ => v') :: rs) := fun v' J => by
            obtain ⟨w9, S9⟩ := f1_set (J.at 0) v'
            exact ⟨w9, J.step 0 S9⟩
          have main7 : ∀ b : Bool, J34 [.pointer (some ⟨Q.wb, 0, none⟩), .pointer (some ⟨b0, 0, none⟩), .pointer (some ⟨b2, 0, none⟩), .int .i64 (l.length : Int), .int .i64 (wi : Int), .int .i64 (o : Int), .int .i64 op, .bool b] h3 := by
            intro b
            refine hJ34 _ _ _ _ _ _ _ _ _ ⟨fun _ => ?_, fun _ => ⟨fun _ => ?_, fun _ => ⟨fun _ => ?_, fun _ => ?_⟩⟩⟩
            -- one is given back
            · by_cases hn : l.length = 0
              · obtain ⟨w9, I9⟩ := put (.slice bp l.length bc) I
                exact iT (by simp [hn]) ⟨_, _, _, f1_cell (I.at 2), w9, _, _, _, f1_cell (I9.at 0), hK x fl l Q _ bp bc rfl W (.inl ⟨Nat.le_refl _, id⟩) (by omega) (I9.two 3 4)⟩
              · have hwi := hwi (by omega)
                have hlv := erase_lv hwi
                have hel := erase_len hwi
                have W1 := W.perm hlv
                generalize hbb : l.getD wi bk0 = bb at hlv W1
                have al := W1.al (List.mem_cons_self ..)
                simp only [Bk.b] at al
                have hpb := Nat.two_pow_pos bb.k
                obtain ⟨a, e1, r1, r2, r3⟩ := row_bk (sl_row (I.at 4)) (Upd.refl _ _) hwi
                rw [hbb] at r1 r2 r3
                refine iF (by simpa using hn) ⟨_, _, _, f1_cell (I.at 2), a, e1, by omega, by omega, _, r1, _, r2, _, r3, ?_⟩
                have N4 := box3 h3 (.int .i64 0) (.int .i64 0) (.int .u8 0) T.T_croftlaw5_block
                generalize Array.push h3 (.cells #[.int .i64 0, .int .i64 0, .int .u8 0] T.T_croftlaw5_block) = h4 at N4 ⊢
                obtain ⟨b4, eb4⟩ : ∃ b4, b4 = Array.size h3 := ⟨_, rfl⟩
                rw [← eb4] at N4 ⊢
                have I4 := I.new N4
                obtain ⟨w5, S5⟩ := assign3 (I4.at 0) (.int .i64 (bb.p : Int)) (.int .i64 (bb.k : Int)) (.int .u8 bb.m)
                have I5 := I4.step 0 S5
                refine ⟨w5, fun J38 hJ38 => ?_⟩
                generalize setCs h4 ⟨b4, 0, none⟩ 0 [.int .i64 (bb.p : Int), .int .i64 (bb.k : Int), .int .u8 bb.m] = h5 at I5 ⊢
                have I5 : Go.V.Own h h5 (wbR c Q x bp bc l) [blkR b4 3 (f3 (.int .i64 (bb.p : Int)) (.int .i64 (bb.k : Int)) (.int .u8 bb.m)), blkR b2 1 fun _ => .slice none 0 0, blkR b1 3 (f3 (.int .i64 op) (.int .i64 od) (.int .i64 wh)), blkR b0 1 fun _ => .slice bp l.length bc, wsR c Q x, slR bp l.length bc 3 (bkV l)] := I5
                obtain ⟨q0, q1, q2⟩ := f3_cells (I5.at 0)
                refine ⟨_, _, _, f1_cell (I5.at 3), _, rfl, _, wd_cell (I5.at 4) (i := 5) (by omega), _, q0, _, q1, ?_⟩
                refine without_ok (by omega) hwi (sl_row (I5.at 5)) fun h6 p6 c6 N6 => ⟨_, _, _, rfl, ?_⟩
                have I6 := I5.new N6
                obtain ⟨q0, q1, q2⟩ := f3_cells (I6.at 1)
                refine ⟨q1, q0, wd_cell (I6.at 5) (i := 5) (by omega), ?_⟩
                refine at_ok W.ok (I6.at 5) (by omega) ⟨_, rfl, q1, wd_cell (I6.at 5) (i := 5) (by omega), ?_⟩
                refine giveW W (I6.at 5) hlv fun x' h7 W' M S7 => ⟨_, rfl, qT rfl ?_⟩
                have I7 := I6.step 5 S7
                obtain ⟨q0, q1, q2⟩ := f3_cells (I7.at 1)
                refine ⟨_, rfl, _, wd_cell (I7.at 5) (i := 5) (by omega), _, q0, _, q1, ?_⟩
                refine at_ok W'.ok (I7.at 5) (by omega) ⟨_, rfl, q1, wd_cell (I7.at 5) (i := 5) (by omega), ?_⟩
                refine giveN W' (I7.at 5) (adr_u64 W.g W.ok.m (by omega)) (once W1) fun h8 S8 => ⟨_, rfl, ?_⟩
                have I8 := I7.step 5 S8
                have I8' : Go.V.Own h h8 (wbR c Q x bp bc l) [blkR b2 1 fun _ => .slice none 0 0, wsR c Q x', slR p6 (l.eraseIdx wi).length c6 3 (bkV (l.eraseIdx wi))] := by
                  have J := (I8.sub (rs' := [slR p6 (l.eraseIdx wi).length c6 3 (bkV (l.eraseIdx wi)), blkR b2 1 fun _ => .slice none 0 0, wsR c Q x']) (.cons_cons _ (.cons _ (.cons_cons _ (.cons _ (.cons _ (.cons_cons _ (.cons _ .slnil))))))))
                  exact J.perm ((List.Perm.swap _ _ _).trans ((List.Perm.swap _ _ _).cons _)).symm
                obtain ⟨w9, I9⟩ := put (.slice p6 (l.eraseIdx wi).length c6) I8'
                refine ⟨w9, hJ38 _ _ _ ⟨_, _, _, f1_cell (I9.at 0), hK x' _ (l.eraseIdx wi) Q _ p6 c6 rfl W' (.inl ⟨by omega, fun hmk => (hmk.erase wi).kept M.k⟩) (by omega) (I9.two 1 2)⟩⟩
            -- one is made less
            · intro J47 hJ47
              have ret : J47 true h3 := by
                obtain ⟨w9, I9⟩ := put (.slice bp l.length bc) I
                exact hJ47 _ _ (iT rfl ⟨_, _, _, f1_cell (I.at 2), w9, _, _, _, f1_cell (I9.at 0), hK x fl l Q _ bp bc rfl W (.inl ⟨Nat.le_refl _, id⟩) (by omega) (I9.two 3 4)⟩)
              by_cases hn : l.length = 0
              · exact pT (by simp [hn]) ret
              have hwi := hwi (by omega)
              have hlv := erase_lv hwi
              have hel := erase_len hwi
              have W1 := W.perm hlv
              generalize hbb : l.getD wi bk0 = bb at hlv W1
              have hbm : bb ∈ l := by rw [← hbb, List.getD_eq_getElem?_getD, List.getElem?_eq_getElem hwi]; exact List.getElem_mem hwi
              have al := W1.al (List.mem_cons_self ..)
              simp only [Bk.b] at al
              have hpb := Nat.two_pow_pos bb.k
              obtain ⟨a, e1, r1, r2, r3⟩ := row_bk (sl_row (I.at 4)) (Upd.refl _ _) hwi
              rw [hbb] at r1 r2 r3
              refine pF (by simpa using hn) ⟨_, _, _, f1_cell (I.at 2), a, e1, by omega, by omega, _, r2, ?_⟩
              by_cases hko : (bb.k : Int) < o
              · rw [decide_eq_true hko]; exact ret
              rw [decide_eq_false hko]
              refine hJ47 _ _ (iF rfl ⟨_, _, _, f1_cell (I.at 2), a, e1, by omega, by omega, _, r1, _, r2, _, r3, ?_⟩)
              have N4 := box3 h3 (.int .i64 0) (.int .i64 0) (.int .u8 0) T.T_croftlaw5_block
              generalize Array.push h3 (.cells #[.int .i64 0, .int .i64 0, .int .u8 0] T.T_croftlaw5_block) = h4 at N4 ⊢
              obtain ⟨b4, eb4⟩ : ∃ b4, b4 = Array.size h3 := ⟨_, rfl⟩
              rw [← eb4] at N4 ⊢
              have I4 := I.new N4
              obtain ⟨w5, S5⟩ := assign3 (I4.at 0) (.int .i64 (bb.p : Int)) (.int .i64 (bb.k : Int)) (.int .u8 bb.m)
              have I5 := I4.step 0 S5
              refine ⟨w5, ?_⟩
              generalize setCs h4 ⟨b4, 0, none⟩ 0 [.int .i64 (bb.p : Int), .int .i64 (bb.k : Int), .int .u8 bb.m] = h5 at I5 ⊢
              have I5 : Go.V.Own h h5 (wbR c Q x bp bc l) [blkR b4 3 (f3 (.int .i64 (bb.p : Int)) (.int .i64 (bb.k : Int)) (.int .u8 bb.m)), blkR b2 1 fun _ => .slice none 0 0, blkR b1 3 (f3 (.int .i64 op) (.int .i64 od) (.int .i64 wh)), blkR b0 1 fun _ => .slice bp l.length bc, wsR c Q x, slR bp l.length bc 3 (bkV l)] := I5
              obtain ⟨q0, q1, q2⟩ := f3_cells (I5.at 0)
              refine ⟨_, rfl, _, wd_cell (I5.at 4) (i := 5) (by omega), _, q0, _, q1, ?_⟩
              refine at_ok W.ok (I5.at 4) (by omega) ⟨_, rfl, q1, wd_cell (I5.at 4) (i := 5) (by omega), ?_⟩
              refine shrinkW W (I5.at 4) (by omega) hlv fun x' h6 W' M M2 S6 => ⟨_, rfl, ?_⟩
              have I6 := I5.step 4 S6
              have I6 : Go.V.Own h h6 (wbR c Q x bp bc l) [blkR b4 3 (f3 (.int .i64 (bb.p : Int)) (.int .i64 (bb.k : Int)) (.int .u8 bb.m)), blkR b2 1 fun _ => .slice none 0 0, blkR b1 3 (f3 (.int .i64 op) (.int .i64 od) (.int .i64 wh)), blkR b0 1 fun _ => .slice bp l.length bc, wsR c Q x', slR bp l.length bc 3 (bkV l)] := I6
              have B6 : Blk h6 b4 3 (f3 (.int .i64 (bb.p : Int)) (.int .i64 (bb.k : Int)) (.int .u8 bb.m)) := I6.at 0
              have S7 := Stp.set B6 1 (.int .i64 (o : Int)) (g := f3 (.int .i64 (bb.p : Int)) (.int .i64 (o : Int)) (.int .u8 bb.m)) fun j hj => by
                have : j = 0 ∨ j = 1 ∨ j = 2 := by omega
                rcases this with rfl | rfl | rfl <;> rfl
              have I7 := I6.step 0 S7
              refine ⟨by rw [add_mk]; exact B6.wr (by omega), ?_⟩
              rw [show (⟨b4, 0, none⟩ : Addr).add 1 = ⟨b4, 1, none⟩ by rw [add_mk]]
              generalize setC h6 ⟨b4, 1, none⟩ (.int .i64 (o : Int)) = h7 at I7 ⊢
              rw [show (⟨b4, 1, none⟩ : Addr) = (⟨b4, 0, none⟩ : Addr).add 1 by rw [add_mk]]
              have I7 : Go.V.Own h h7 (wbR c Q x bp bc l) [blkR b4 3 (f3 (.int .i64 (bb.p : Int)) (.int .i64 (o : Int)) (.int .u8 bb.m)), blkR b2 1 fun _ => .slice none 0 0, blkR b1 3 (f3 (.int .i64 op) (.int .i64 od) (.int .i64 wh)), blkR b0 1 fun _ => .slice bp l.length bc, wsR c Q x', slR bp l.length bc 3 (bkV l)] := I7
              refine ⟨_, _, _, f1_cell (I7.at 3), ?_⟩
              refine without_ok (by omega) hwi (sl_row (I7.at 5)) fun h8 p8 c8 N8 => ⟨_, _, _, rfl, ?_⟩
              have I8 := I7.new N8
              have N9 := box1 h8 (.slice none 0 0) T.T_croftlaw5_book
              generalize Array.push h8 (.cells #[.slice none 0 0] T.T_croftlaw5_book) = h9 at N9 ⊢
              obtain ⟨b9, eb9⟩ : ∃ b9, b9 = Array.size h8 := ⟨_, rfl⟩
              rw [← eb9] at N9 ⊢
              have I9 := I8.new N9
              generalize hle : l.eraseIdx wi = le at hlv hel W' N8 I8 I9 W1 M
              obtain ⟨w10, S10⟩ := f1_set (I9.at 0) (.slice p8 le.length c8)
              have I10 := I9.step 0 S10
              refine ⟨w10, ?_⟩
              generalize setC h9 ⟨b9, 0, none⟩ (.slice p8 le.length c8) = h10 at I10 ⊢
              have I10 : Go.V.Own h h10 (wbR c Q x bp bc l) [blkR b9 1 fun _ => .slice p8 le.length c8, slR p8 le.length c8 3 (bkV le), blkR b4 3 (f3 (.int .i64 (bb.p : Int)) (.int .i64 (o : Int)) (.int .u8 bb.m)), blkR b2 1 fun _ => .slice none 0 0, blkR b1 3 (f3 (.int .i64 op) (.int .i64 od) (.int .i64 wh)), blkR b0 1 fun _ => .slice bp l.length bc, wsR c Q x', slR bp l.length bc 3 (bkV l)] := I10
              have R6 : Go.V.Own h h10 (wbR c Q x bp bc l) [blkR b9 1 fun _ => .slice p8 le.length c8, slR p8 le.length c8 3 (bkV le), blkR b4 3 (f3 (.int .i64 (bb.p : Int)) (.int .i64 (o : Int)) (.int .u8 bb.m)), blkR b2 1 fun _ => .slice none 0 0, wsR c Q x'] :=
                I10.sub (.cons_cons _ (.cons_cons _ (.cons_cons _ (.cons_cons _ (.cons _ (.cons _ (.cons_cons _ (.cons _ .slnil))))))))
              intro J57 hJ57
              obtain ⟨q0, q1, q2⟩ := f3_cells (R6.at 2)
              refine ⟨_, _, _, f1_cell (R6.at 0), _, q0, _, q1, _, q2, ?_⟩
              have fin : ∀ {hx : Heap} {p' : Option Addr} {c' : Nat}, Go.V.Own h hx (wbR c Q x bp bc l) [slR p' (le.length + 1) c' 3 (bkV (le ++ [⟨bb.p, o, bb.m⟩])), blkR b2 1 (fun _ => .slice none 0 0), wsR c Q x'] →
                  Wr hx ⟨b2, 0, none⟩ ∧ J57 [.pointer (some ⟨b2, 0, none⟩), .bool true] (setC hx ⟨b2, 0, none⟩ (.slice p' (0 + le.length + 1) c')) := by
                intro hx p' c' J
                obtain ⟨w9, S9⟩ := f1_set (J.at 1) (.slice p' (0 + le.length + 1) c')
                have J9 := J.step 1 S9
                have el : (le ++ [(⟨bb.p, o, bb.m⟩ : Bk)]).length = le.length + 1 := by simp
                refine ⟨w9, hJ57 _ _ _ ⟨_, _, _, f1_cell (J9.at 1), ?_⟩⟩
                have e0 : 0 + le.length + 1 = (le ++ [(⟨bb.p, o, bb.m⟩ : Bk)]).length := by rw [el, Nat.zero_add]
                rw [e0]
                refine hK x' _ (le ++ [⟨bb.p, o, bb.m⟩]) Q _ p' c' rfl (W'.perm ?_) (.inl ⟨by rw [el]; omega, fun hmk => ?_⟩) (by rw [el]; omega) ?_
                · show ((bb.p, o) :: lvB le).Perm (lvB (le ++ [⟨bb.p, o, bb.m⟩]))
                  unfold lvB
                  rw [List.map_append]
                  exact (List.perm_append_comm (l₁ := [(bb.p, o)]))
                · intro z hz y hy1 hy2
                  rcases List.mem_append.1 hz with hz | hz
                  · have hmk' : Mk x.st le := by rw [← hle]; exact hmk.erase wi
                    exact (hmk'.kept M.k) z hz y hy1 hy2
                  · have hz : z = ⟨bb.p, o, bb.m⟩ := by simpa using hz
                    subst hz
                    simp only [] at hy1 hy2
                    have hpo : 2 ^ o ≤ 2 ^ bb.k := Nat.pow_le_pow_right (by omega) (by omega)
                    rw [M2.2 (bb.p, o) (List.mem_cons_self ..) y hy1 hy2]
                    exact hmk bb hbm y hy1 (Nat.lt_of_lt_of_le hy2 (Nat.mul_le_mul_left _ (Nat.add_le_add_left hpo _)))
                · have e1 : (slR p' (le.length + 1) c' 3 (bkV (le ++ [⟨bb.p, o, bb.m⟩]))) = slR p' (le ++ [(⟨bb.p, o, bb.m⟩ : Bk)]).length c' 3 (bkV (le ++ [⟨bb.p, o, bb.m⟩])) := by rw [el]
                  have J10 := J9
                  rw [e1, e0] at J10
                  exact J10.two 2 0
              have hle2 : le.length ≤ 1073741824 := by omega
              refine ⟨?_, ?_⟩
              · have N7 := sl_lit h10 #[] T.T_croftlaw5_block 0 3 rfl
                generalize Array.push h10 (.cells #[] T.T_croftlaw5_block) = h11 at N7 ⊢
                have R7 := R6.new N7
                obtain ⟨q0, q1, q2⟩ := f3_cells (R7.at 3)
                refine ⟨q0, q1, q2, f1_cell (R7.at 1), ?_, ?_⟩
                · obtain ⟨os, q3, q4⟩ := copy_ok (l := le) hle2 (R7.at 0) (sl_row (R7.at 2))
                  refine ⟨os, _, q3, fun p1 c1 h12 hres => ?_⟩
                  have R8 := R7.step 0 (q4 p1 c1 h12 hres)
                  obtain ⟨q0, q1, q2⟩ := f3_cells (R8.at 3)
                  refine ⟨q0, q1, q2, ?_⟩
                  have N9 := box3 h12 (.int .i64 (bb.p : Int)) (.int .i64 (o : Int)) (.int .u8 bb.m) T.T_croftlaw5_block
                  generalize Array.push h12 (.cells #[.int .i64 (bb.p : Int), .int .i64 (o : Int), .int .u8 bb.m] T.T_croftlaw5_block) = h13 at N9 ⊢
                  have R9 := R8.new N9
                  refine ⟨f1_cell (R9.at 2), ?_⟩
                  obtain ⟨os', q3, q4⟩ := add_ok (l := le) (n := 0 + le.length) (b := ⟨bb.p, o, bb.m⟩) (Nat.zero_add _) hle2 (R9.at 1) (row_f3 (R9.at 0))
                  refine ⟨os', _, q3, fun p2 c2 h14 hres2 => fin ?_⟩
                  have R10 := R9.step 1 (q4 p2 c2 h14 hres2)
                  exact R10.sub (.cons _ (.cons_cons _ (.cons _ (.cons _ (.cons _ (.cons_cons _ (.cons_cons _ .slnil)))))))
                · have N9 := box3 h11 (.int .i64 (bb.p : Int)) (.int .i64 (o : Int)) (.int .u8 bb.m) T.T_croftlaw5_block
                  generalize Array.push h11 (.cells #[.int .i64 (bb.p : Int), .int .i64 (o : Int), .int .u8 bb.m] T.T_croftlaw5_block) = h12 at N9 ⊢
                  have R9 := R7.new N9
                  refine ⟨f1_cell (R9.at 2), ?_⟩
                  obtain ⟨os, q3, q4⟩ := copy_ok (l := le) hle2 (R9.at 1) (sl_row (R9.at 3))
                  refine ⟨os, _, q3, fun p1 c1 h13 hres => ?_⟩
                  have R8 := R9.step 1 (q4 p1 c1 h13 hres)
                  obtain ⟨q0, q1, q2⟩ := f3_cells (R8.at 4)
                  refine ⟨q0, q1, q2, ?_⟩
                  obtain ⟨os', q3, q4⟩ := add_ok (l := le) (n := 0 + le.length) (b := ⟨bb.p, o, bb.m⟩) (Nat.zero_add _) hle2 (R8.at 1) (row_f3 (R8.at 0))
                  refine ⟨os', _, q3, fun p2 c2 h14 hres2 => fin ?_⟩
                  have R10 := R8.step 1 (q4 p2 c2 h14 hres2)
                  exact R10.sub (.cons _ (.cons_cons _ (.cons _ (.cons _ (.cons _ (.cons_cons _ (.cons_cons _ .slnil)))))))
              · have N7 := box3 h10 (.int .i64 (bb.p : Int)) (.int .i64 (o : Int)) (.int .u8 bb.m) T.T_croftlaw5_block
                generalize Array.push h10 (.cells #[.int .i64 (bb.p : Int), .int .i64 (o : Int), .int .u8 bb.m] T.T_croftlaw5_block) = h11 at N7 ⊢
                have R7 := R6.new N7
                refine ⟨f1_cell (R7.at 1), ?_⟩
                have N9 := sl_lit h11 #[] T.T_croftlaw5_block 0 3 rfl
                generalize Array.push h11 (.cells #[] T.T_croftlaw5_block) = h12 at N9 ⊢
                have R9 := R7.new N9
                obtain ⟨q0, q1, q2⟩ := f3_cells (R9.at 4)
                refine ⟨q0, q1, q2, f1_cell (R9.at 2), ?_⟩
                obtain ⟨os, q3, q4⟩ := copy_ok (l := le) hle2 (R9.at 0) (sl_row (R9.at 3))
                refine ⟨os, _, q3, fun p1 c1 h13 hres => ?_⟩
                have R8 := R9.step 0 (q4 p1 c1 h13 hres)
                obtain ⟨q0, q1, q2⟩ := f3_cells (R8.at 4)
                refine ⟨q0, q1, q2, ?_⟩
                obtain ⟨os', q3, q4⟩ := add_ok (l := le) (n := 0 + le.length) (b := ⟨bb.p, o, bb.m⟩) (Nat.zero_add _) hle2 (R8.at 0) (row_f3 (R8.at 1))
                refine ⟨os', _, q3, fun p2 c2 h14 hres2 => fin ?_⟩
                have R10 := R8.step 0 (q4 p2 c2 h14 hres2)
                exact R10.sub (.cons_cons _ (.cons _ (.cons _ (.cons _ (.cons _ (.cons_cons _ (.cons_cons _ .slnil)))))))
            -- a region comes
            · intro J72 hJ72
              refine ⟨_, _, _, f1_cell (I.at 2), _, rfl, _, wd_cell (I.at 3) (i := 3) (by omega), _, rfl, _, wd_cell (I.at 3) (i := 1) (by omega), ?_⟩
              refine mem_Regions_ok (bu_sp (wd_bu (I.at 3))) ⟨_, rfl, wd_cell (I.at 3) (i := 1) (by omega), f1_cell (I.at 2), ?_⟩
              have hnl : (x.st.n : Int) ≤ c.limit := (bu_sp (wd_bu (I.at 3))).nl
              by_cases hn : (x.st.n : Int) = c.limit
              · obtain ⟨w9, I9⟩ := put (.slice bp l.length bc) I
                exact pT (by simp [hn]) ⟨w9, hJ72 _ _ _ ⟨_, _, _, f1_cell (I9.at 0), hK x fl l Q _ bp bc rfl W (.inl ⟨Nat.le_refl _, id⟩) (by omega) (I9.two 3 4)⟩⟩
              refine pF (beq_false_of_ne hn) ?_
              refine comeW W (I.at 3) (by omega) fun x1 h4 Q1 eQ W1 eo en es hM S4 => ⟨_, rfl, ?_⟩
              have I4 := I.step 3 S4
              refine ⟨f1_cell (I4.at 2), qT rfl ⟨_, rfl, _, by rw [← eQ]; exact wd_cell (I4.at 3) (i := 5) (by omega), ?_⟩⟩
              have e9 : x1.m.n - 2 ^ x1.m.o = x.m.n := by rw [en, eo]; omega
              refine feedW W1 (I4.at 3) (by omega) (L' := lvB l) (by rw [e9, eo]) fun x2 h5 W2 M S5 => ⟨_, rfl, ?_⟩
              have I5 := I4.step 3 S5
              obtain ⟨w9, I9⟩ := put (.slice bp l.length bc) I5
              refine ⟨f1_cell (I5.at 2), w9, hJ72 _ _ _ ⟨_, _, _, f1_cell (I9.at 0), hK x2 _ l Q1 _ bp bc eQ W2 (.inl ⟨Nat.le_refl _, fun hmk => Mk.kept (st := x1.st) (fun z hz y hy1 hy2 => ?_) M.k⟩) (by omega) (I9.two 3 4)⟩⟩
              rw [hM z.b (List.mem_map.2 ⟨z, hz, rfl⟩) y hy1 hy2]
              exact hmk z hz y hy1 hy2
            -- a region goes
            · have hc2 : cellAt h3 ((⟨Q.wb, 0, none⟩ : Addr).add 2) = some (.int .i64 (x.m.o : Int)) := by have := wd_cell (I.at 3) (i := 2) (by omega); rw [hxo]; exact this
              have hoo : IntKind.wrap .u64 (x.m.o : Int) = (x.m.o : Int) := by rw [IntKind.wrap_u64]; omega
              have h8o := pow8 o8
              have etop : IntKind.wrap .i64 ((x.m.n : Int) - IntKind.wrap .i64 ((1 : Int) * 2 ^ min (Int.toNat (IntKind.wrap .u64 (x.m.o : Int))) (IntKind.bits .i64))) = (x.m.n : Int) - ((2 ^ x.m.o : Nat) : Int) := by
                rw [hoo, shl1 o8, IntKind.wrap_i64]; omega
              refine ⟨_, rfl, _, wd_cell (I.at 3) (i := 7) (by omega), _, rfl, _, hc2, by rw [hoo]; omega, fun J81 hJ81 => ?_⟩
              have no : x.m.n - 2 ^ x.m.o ∉ fl x.m.o → ∀ h4, Upd NoB h3 h4 → J81 true h4 := fun hF h4 u4 => by
                have I4 := I.quiet u4
                refine hJ81 _ _ (iT rfl ⟨_, _, _, f1_cell (I4.at 2), _, rfl, _, wd_cell (I4.at 3) (i := 5) (by omega), ?_⟩)
                refine pullN W (I4.at 3) hF fun h5 S5 => ⟨_, rfl, ?_⟩
                have I5 := I4.step 3 S5
                obtain ⟨w9, I9⟩ := put (.slice bp l.length bc) I5
                exact ⟨f1_cell (I5.at 2), w9, _, _, _, f1_cell (I9.at 0), hK x fl l Q _ bp bc rfl W (.inl ⟨Nat.le_refl _, id⟩) (by omega) (I9.two 3 4)⟩
              rw [etop]
              by_cases hn : x.m.n = 0
              · exact pT (decide_eq_true (by omega)) (no (top_zero W hn) h3 (Upd.refl _ _))
              have hle : 2 ^ x.m.o ≤ x.m.n := Nat.le_of_dvd (by omega) (Nat.dvd_of_mod_eq_zero (W.dvd (Nat.le_refl _)))
              have etn : (x.m.n : Int) - ((2 ^ x.m.o : Nat) : Int) = ((x.m.n - 2 ^ x.m.o : Nat) : Int) := by omega
              rw [etn]
              refine pF (decide_eq_false (by omega)) ⟨_, _, _, f1_cell (I.at 2), _, rfl, _, hc2, ?_⟩
              refine meets_ok (by omega) (sl_row (I.at 4)) hbn (by omega) o8 fun h4 u4 => ⟨_, rfl, ?_⟩
              have tf := top_free W (by omega)
              cases hm : meetsB l (x.m.n - 2 ^ x.m.o) x.m.o with
              | true => exact no (fun hF => by rw [tf.1 hF] at hm; cases hm) h4 u4
              | false =>
                have I4 := I.quiet u4
                refine hJ81 _ _ (iF rfl ⟨_, _, _, f1_cell (I4.at 2), _, rfl, _, wd_cell (I4.at 3) (i := 5) (by omega), ?_⟩)
                refine pullW W (I4.at 3) (W.pos (by omega)) (tf.2 hm) fun x1 h5 W1 M S5 => ⟨_, rfl, ?_⟩
                have I5 := I4.step 3 S5
                refine ⟨f1_cell (I5.at 2), fun J85 hJ85 => qT rfl ?_⟩
                have W1' : WI c x1 (fset fl x.m.o ((fl x.m.o).filter (· ≠ x.m.n - 2 ^ x.m.o))) ((x1.m.n - 2 ^ x1.m.o, x1.m.o) :: lvB l) := by rw [M.n, M.o]; exact W1
                refine goesW W1' (I5.at 3) (by rw [M.k.1]; exact W.pos (by omega)) fun x2 h6 Q2 eQ W2 eo en es S6 => ⟨_, rfl, ?_⟩
                have I6 := I5.step 3 S6
                obtain ⟨w9, I9⟩ := put (.slice bp l.length bc) I6
                refine ⟨f1_cell (I6.at 2), hJ85 _ _ ⟨w9, _, _, _, f1_cell (I9.at 0), hK x2 _ l Q2 _ bp bc eQ W2 (.inl ⟨Nat.le_refl _, fun hmk => ?_⟩) (by omega) (I9.two 3 4)⟩⟩
                rw [es]
                exact fun z hz y hy1 hy2 => (hmk.kept M.k) z hz y hy1 hy2
          exact ⟨fun _ => main7 _, fun _ => main7 _⟩
        done
      exact ⟨fun _ => main6 _, fun _ => ⟨fun _ => main6 _, fun _ => main6 _⟩⟩
    refine ⟨_, d1, ?_⟩
    have hc2 : cellAt h3 ((⟨Q.wb, 0, none⟩ : Addr).add 2) = some (.int .i64 (x.m.o : Int)) := by have := wd_cell (I.at 3) (i := 2) (by omega); rw [hxo]; exact this
    have ew1 : IntKind.wrap .i64 ((x.m.o : Int) + 1) = (x.m.o : Int) + 1 := by rw [IntKind.wrap_i64]; omega
    by_cases ho : od > 0
    · refine iT (decide_eq_true ho) ⟨_, d1, _, rfl, _, hc2, ?_⟩
      rw [ew1]
      have e1 : Int.tmod od ((x.m.o : Int) + 1) = od % ((x.m.o : Int) + 1) := Int.tmod_eq_emod_of_nonneg (by omega)
      have e2 := Int.emod_nonneg od (show ((x.m.o : Int) + 1) ≠ 0 by omega)
      have e3 := Int.emod_lt_of_pos od (show 0 < ((x.m.o : Int) + 1) by omega)
      obtain ⟨on, hon⟩ : ∃ on : Nat, od % ((x.m.o : Int) + 1) = on := ⟨(od % ((x.m.o : Int) + 1)).toNat, by omega⟩
      rw [e1, hon]
      exact ⟨by omega, main5 on (by omega)⟩
    · exact iF (decide_eq_false ho) (main5 0 (by omega))
  intro J89 hJ89
  by_cases hn : 0 < l.length
  · refine qT (decide_eq_true (by omega)) ⟨_, d2, hJ89 _ _ ?_⟩
    by_cases hw : wh > 0
    · refine iT (decide_eq_true hw) ⟨_, d2, by omega, ?_⟩
      have e1 : Int.tmod wh (l.length : Int) = wh % (l.length : Int) := Int.tmod_eq_emod_of_nonneg (by omega)
      have e2 := Int.emod_nonneg wh (show (l.length : Int) ≠ 0 by omega)
      have e3 := Int.emod_lt_of_pos wh (show 0 < (l.length : Int) by omega)
      obtain ⟨wn, hwn⟩ : ∃ wn : Nat, wh % (l.length : Int) = wn := ⟨(wh % (l.length : Int)).toNat, by omega⟩
      rw [e1, hwn]
      exact main wn fun _ => by omega
    · exact iF (decide_eq_false hw) (main 0 fun h => h)
  · exact qF' (decide_eq_false (by omega)) (hJ89 _ _ (iF rfl (main 0 fun h => h)))
end
end Go.Proofs.Ytnlcmfdmbgnpfaa
