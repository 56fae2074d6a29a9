/- croftlaw5: opened over a world with the document's buddy. No condition. -/
import Derived.Test.YtnlcmfdmbgnpfaaGreatZAN
set_option linter.unusedSimpArgs false
set_option linter.unusedVariables false
namespace Go.Proofs.YtnlcmfdmbgnpfaaGreat
open Go.V Classical

section
variable {w₀ : World} {h h' : Heap} {c : Cfg} {Q : WZ} {x : BU} {fl : Nat → List Nat} {V : List PBk} {K : Value → Heap → Prop} {h0 : Heap} {E : Res} {rs : List Res}

theorem ow_front5 {A B C D F : Res} (H : Go.V.Own h0 h E (A :: B :: C :: D :: F :: rs)) : Go.V.Own h0 h E (F :: A :: B :: C :: D :: rs) := ow_front4 (H.perm (.cons _ (.cons _ (.cons _ (.swap _ _ _)))))

theorem bu_Open_any {s mb n cap : Nat} {p : Option Addr} (hn : n ≤ 1048576) (hoc : 0 ≤ c.order ∧ c.order ≤ 8) (R : Row h p n (headU fun _ => 0))
    (hK : ∀ h' (q : Option Addr) (e : Int), Upd NoB h h' → ((n : Int) ≠ c.order + 1 → q = none ∧ e = 7) → K (.tuple #[.pointer q, .int .i64 e]) h') :
    CallV Tryz.prog w₀ F.buddy_Open [.agg #[.int .u64 c.base, .int .i64 c.limit, .int .i64 c.order], .pointer (some ⟨s, 0, none⟩), .pointer (some ⟨mb, 0, none⟩), .slice p n cap] h K :=
  bu_Open_ok hn hoc (fun _ _ => by simp [U64]) R (fun _ h' u => hK h' none 7 u fun _ => ⟨rfl, rfl⟩) fun e h' b lp lc lb N => hK h' _ 0 N.u fun hne => absurd e hne

theorem WS.hds {S : Nat → Prop} (W : WS S c x fl V) {i : Nat} (hi : i < x.m.o + 1) : (hdL c fl x.m.o).getD i 0 = x.hd i := by
  have e := (W.rep.ls i (by omega)).hd
  simp only [] at e
  rw [e]
  unfold hdL
  rw [List.getD_eq_getElem?_getD, List.getElem?_map, List.getElem?_range hi]
  simp only [Option.map_some, Option.getD_some]

theorem openedZ_ok {n : Int} (W : WI c x fl V) (H : (wzR c Q x fl V).P h) (hK : ∀ (h' : Heap) (Q' : WZ), Q'.wb = Q.wb → Stp h h' (wzR c Q x fl V) (wzR c Q' x fl V) → K (.bool true) h') :
    CallV Tryz.prog w₀ F.croftlaw5_world_opened [.pointer (some ⟨Q.wb, 0, none⟩), .int .i64 n] h K := by
  refine croftlaw5_world_opened.call ?_
  unfold croftlaw5_world_opened.vc
  have o8 := W.ok.m.o8
  have eo := W.ok.o
  have hl := hdL_len c fl x.m.o
  have hdu : ∀ i, i < x.m.o + 1 → U64 (x.hd i) := fun i hi => bu_hu (wz_bu H) (by omega)
  refine ⟨_, rfl, _, wz_cell H (i := 5) (by omega), wz_heads W (Go.V.Own.of H) fun h1 p1 c1 I1 => ⟨_, _, _, rfl, fun J2 hJ2 L15 hL15 => ?_⟩⟩
  have go : ∀ (i : Nat) (y : Option Addr) (cap : Nat) (hx : Heap), i ≤ 20 → Go.V.Own h hx (wzR c Q x fl V) [slR y i cap 1 (headU fun _ => 0), slR p1 (hdL c fl x.m.o).length c1 1 (uL (hdL c fl x.m.o)), wzR c Q x fl V] →
      J2 [.pointer (some ⟨Q.wb, 0, none⟩), .slice p1 (hdL c fl x.m.o).length (hdL c fl x.m.o).length, .slice y i cap] hx := by
    intro i y cap hx hi I
    refine hJ2 _ _ _ _ _ _ _ _ ⟨_, rfl, _, wz_c0 (I.at 2), _, wz_cell (I.at 2) (i := 1) (by omega), _, wz_cell (I.at 2) (i := 2) (by omega), _, rfl, _, wz_cell (I.at 2) (i := 3) (by omega), _, rfl, _, wz_cell (I.at 2) (i := 4) (by omega), ?_⟩
    refine bu_Open_any (c := c) (by omega) (by omega) (by have := sl_row (I.at 0); rwa [Nat.mul_one] at this) fun h2 q e u2 hq => ⟨_, _, rfl, ?_⟩
    have I2 := (I.quiet u2).drop
    refine ⟨_, rfl, _, wz_cell (I2.at 1) (i := 2) (by omega), fun J4 hJ4 => ?_⟩
    have fin : J4 false h2 := by
      refine hJ4 _ _ (iF rfl ⟨_, rfl, _, wz_c0 (I2.at 1), _, wz_cell (I2.at 1) (i := 1) (by omega), _, wz_cell (I2.at 1) (i := 2) (by omega), _, rfl, _, wz_cell (I2.at 1) (i := 3) (by omega), _, rfl, _, wz_cell (I2.at 1) (i := 4) (by omega), ?_⟩)
      have R : Row h2 p1 (hdL c fl x.m.o).length (headU x.hd) := by
        have := sl_row (sl_congr (g := headU x.hd) (I2.at 0) fun j hj => by
          show Value.int .u64 ((hdL c fl x.m.o).getD j 0) = .int .u64 (x.hd j)
          rw [W.hds (by omega)])
        rwa [Nat.mul_one] at this
      refine bu_Open_ok (c := c) (s := Q.W.s) (mb := Q.W.mb) (hd := x.hd) (by omega) (by omega) (fun j hj => hdu j (by omega)) R (fun hne => absurd (by omega) hne) fun _ h3 b lp lc lb N3 => ⟨_, _, rfl, fun J6 hJ6 => pF rfl (hJ6 _ _ fun J7 hJ7 => pF rfl ?_)⟩
      have I3 := I2.new N3
      refine headsZ_ok W (I3.at 2) fun h4 p4 c4 N4 => ⟨_, _, _, rfl, ?_⟩
      have I4 := I3.new N4
      refine ints_ok (by omega) (sl_uL (I4.at 2)) (sl_uL (I4.at 0)) ⟨_, rfl, hJ7 _ _ (iF (by simp) fun J8 hJ8 L10 hL10 => ?_)⟩
      rw [hl] at I4 ⊢
      have loop : ∀ (d j : Nat) (hy : Heap) (f : Nat → Value), j + d = x.m.o + 1 → Go.V.Own h hy (wzR c Q x fl V) [bopR c Q.W.s Q.W.mb b lp (x.m.o + 1) lc lb x.hd, slR p1 (x.m.o + 1) c1 1 f, wzR c Q x fl V] →
          L10 [.pointer (some ⟨Q.wb, 0, none⟩), .slice p1 (x.m.o + 1) (x.m.o + 1), .pointer (some ⟨b, 0, none⟩), .int .i64 (j : Int)] hy := by
        intro d
        induction d with
        | succ d ih =>
          intro j hy f hj I
          obtain ⟨b9, e9, w9, S9⟩ := sl_set (I.at 1) (o := j) (by omega) (.int .u64 99)
          refine hL10 _ _ _ _ _ _ _ (iT (decide_eq_true (by omega)) ⟨_, e9, by omega, by omega, by rw [at1]; exact w9, ?_⟩)
          rw [show IntKind.wrap .i64 ((j : Int) + 1) = ((j + 1 : Nat) : Int) by rw [IntKind.wrap_i64]; omega, at1]
          exact ih (j + 1) _ _ (by omega) (I.step 1 S9)
        | zero =>
          intro j hy f hj I
          have J1 := wz_split (ow_swap (ow_swap2 I))
          have B : Blk hy Q.wb 10 (wzF c Q x.m.o x.m.n V.length) := J1.at 0
          let W' : BW := ⟨Q.W.s, Q.W.Z, Q.W.mb, Q.W.w, b, lp, lc, lb⟩
          have S := Stp.set B 5 (.pointer (some ⟨b, 0, none⟩)) (g := wzF c { Q with W := W' } x.m.o x.m.n V.length) fun k hk => by
            have : k = 0 ∨ k = 1 ∨ k = 2 ∨ k = 3 ∨ k = 4 ∨ k = 5 ∨ k = 6 ∨ k = 7 ∨ k = 8 ∨ k = 9 := by omega
            rcases this with rfl | rfl | rfl | rfl | rfl | rfl | rfl | rfl | rfl | rfl <;> rfl
          have w5 : Wr hy ((⟨Q.wb, 0, none⟩ : Addr).add 5) := by rw [add_mk]; exact B.wr (by omega)
          refine hL10 _ _ _ _ _ _ _ (iF (decide_eq_false (by omega)) (hJ8 _ _ _ ⟨_, rfl, w5, ?_⟩))
          have J2 := J1.step 0 S
          have J3 : Go.V.Own h (setC hy ((⟨Q.wb, 0, none⟩ : Addr).add 5) (.pointer (some ⟨b, 0, none⟩))) (wzR c Q x fl V) (blkR Q.wb 10 (wzF c { Q with W := W' } x.m.o x.m.n V.length) :: rfR Q.Y x.m.o fl V :: buR c Q.W x :: bopR c Q.W.s Q.W.mb b lp (x.m.o + 1) lc lb x.hd :: slR p1 (x.m.o + 1) c1 1 f :: []) := J2
          have J4 := (ow_front3 J3).split.drop.split.split.drop
          have J5 := bu_of_bop (ow_front5 (ow_swap J4))
          have J6 := ow_front3 (ow_front3 J5)
          exact hK _ { Q with W := W' } rfl (wz_join (Q := { Q with W := W' }) J6).stp
      exact loop (x.m.o + 1) 0 h4 _ (by omega) I4.drop
    by_cases hne : (i : Int) = c.order + 1
    · exact qF' (by rw [IntKind.wrap_i64]; simp; omega) fin
    · obtain ⟨rfl, rfl⟩ := hq hne
      exact qT (by rw [IntKind.wrap_i64]; simp; omega) fun J14 hJ14 => pF rfl (hJ14 _ _ fin)
  have loop : ∀ (d i : Nat) (y : Option Addr) (cap : Nat) (hx : Heap), i + d = 20 → Go.V.Own h hx (wzR c Q x fl V) [slR y i cap 1 (headU fun _ => 0), slR p1 (hdL c fl x.m.o).length c1 1 (uL (hdL c fl x.m.o)), wzR c Q x fl V] →
      L15 [.pointer (some ⟨Q.wb, 0, none⟩), .int .i64 n, .slice p1 (hdL c fl x.m.o).length (hdL c fl x.m.o).length, .slice y i cap, .int .i64 (i : Int)] hx := by
    intro d
    induction d with
    | zero =>
      intro i y cap hx hi I
      refine hL15 _ _ _ _ _ _ _ _ _ _ fun J16 hJ16 => ?_
      by_cases hn : (i : Int) < n
      · exact qT (decide_eq_true hn) (hJ16 _ _ (iF (decide_eq_false (by omega)) (go i y cap hx (by omega) I)))
      · exact qF' (decide_eq_false hn) (hJ16 _ _ (iF rfl (go i y cap hx (by omega) I)))
    | succ d ih =>
      intro i y cap hx hi I
      refine hL15 _ _ _ _ _ _ _ _ _ _ fun J16 hJ16 => ?_
      by_cases hn : (i : Int) < n
      · refine qT (decide_eq_true hn) (hJ16 _ _ (iT (decide_eq_true (by omega)) ?_))
        obtain ⟨os, q1, q2⟩ := sl_app1 (zs := [.int .u64 0]) (v := .int .u64 0) (b := 8) (e := T.T_uint64) (T := T.T_uint64) (I.at 0) rfl rfl (by omega)
        refine ⟨os, _, q1, fun p' c' h9 res => ?_⟩
        have I2 := I.step 0 (R := slR y i cap 1 (headU fun _ => 0)) (R' := slR p' (i + 1) c' 1 (headU fun _ => 0)) ((q2 p' c' h9 res).conv (fun P => sl_congr P fun j hj => by split <;> rfl) fun _ e => e)
        rw [show IntKind.wrap .i64 ((i : Int) + 1) = ((i + 1 : Nat) : Int) by rw [IntKind.wrap_i64]; omega]
        exact ih (i + 1) p' c' h9 (by omega) I2
      · exact qF' (decide_eq_false hn) (hJ16 _ _ (iF rfl (go i y cap hx (by omega) I)))
  exact loop 20 0 none 0 h1 (by omega) (I1.new ⟨Upd.refl _ _, sl_nil _ _ _, fun b e => absurd e (sl_nil_fp b)⟩)
end
end Go.Proofs.YtnlcmfdmbgnpfaaGreat
