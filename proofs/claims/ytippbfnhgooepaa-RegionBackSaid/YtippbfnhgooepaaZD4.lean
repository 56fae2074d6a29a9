/- croftlaw6: which, lists. No condition. -/
import Derived.Test.YtippbfnhgooepaaZD3
import Derived.Test.YtippbfnhgooepaaZCA
set_option linter.unusedSimpArgs false
set_option linter.unusedVariables false
namespace Go.Proofs.Ytippbfnhgooepaa
open Go.V Classical

def f2 (v0 v1 : Value) : Nat → Value
  | 0 => v0
  | _ => v1

theorem box2 (h : Heap) (v0 v1 : Value) (T : TypeId) : New h (h.push (.cells #[v0, v1] T)) (blkR h.size 2 (f2 v0 v1)) :=
  (New.box h #[v0, v1] T).conv (fun P => Blk.congr P fun i hi => by
    have hi : i < 2 := hi
    have : i = 0 ∨ i = 1 := by omega
    rcases this with rfl | rfl <;> rfl) fun _ e => e

theorem assign2 {h : Heap} {b : Nat} {f : Nat → Value} (B : Blk h b 2 f) (v0 v1 : Value) : WrN h ⟨b, 0, none⟩ 2 ∧ Stp h (setCs h ⟨b, 0, none⟩ 0 [v0, v1]) (blkR b 2 f) (blkR b 2 (f2 v0 v1)) := by
  refine ⟨fun j hj => by rw [add_mk]; exact B.wr (by omega), Stp.sets B [v0, v1] 0 0 fun j hj => ?_⟩
  rw [if_pos ⟨by omega, by simpa using hj⟩]
  have : j = 0 ∨ j = 1 := by omega
  rcases this with rfl | rfl <;> rfl

theorem f2_cells {h : Heap} {b : Nat} {v0 v1 : Value} (B : (blkR b 2 (f2 v0 v1)).P h) : cellAt h ⟨b, 0, none⟩ = some v0 ∧ cellAt h ((⟨b, 0, none⟩ : Addr).add 1) = some v1 :=
  ⟨B.cell (i := 0) (by omega), by rw [add_mk]; exact B.cell (i := 1) (by omega)⟩

abbrev ptR (c : Cfg) (O : Nat) (Q : PL) (x : BU) (Y : RW6) (fl : Nat → List Nat) (L : List PBk) : Res := andR (plR c Q x) (rfR Y O fl L)

section
variable {w₀ : World} {h h' : Heap} {K : Value → Heap → Prop} {c : Cfg} {r : Nat} {Q : PL} {x : BU} {Y : RW6} {O : Nat} {fl : Nat → List Nat} {L : List PBk}

theorem WI.flOk (W : WI c x fl L) : FlOk x.m.o fl := by
  have n1 := W.ok.m.n1
  refine ⟨fun k hk => ?_, fun k hk => W.rep.ndF hk, fun k hk p hp => ?_⟩
  · have sub : (fl k).Subset (List.range x.m.n) := fun q hq => List.mem_range.2 (W.rep.al hk hq).2.2
    have := List.Nodup.length_le_of_subset (W.rep.ndF hk) sub
    simp at this
    omega
  · have := (W.rep.al hk hp).2.2
    omega

theorem pl_liftx {R : Res} (H : (plR c Q x).P h) (S : Stp h h' (buR c Q.B x) (andR (buR c Q.B x) R)) : Stp h h' (plR c Q x) (andR (plR c Q x) R) :=
  (S.right H).conv (fun ⟨a, ⟨b, r, d1⟩, d2⟩ => ⟨⟨a, b, fun x e e' => d2 x e (.inl e')⟩, r, fun x e e' => e.elim (fun e => d2 x e (.inr e')) (fun e => d1 x e e')⟩) fun b e => by
    rcases e with (e | e) | e
    · exact .inl e
    · exact .inr (.inl e)
    · exact .inr (.inr e)

theorem mod_add {z : Int} {n : Nat} (hn : 0 < n) (hn2 : n ≤ 1000000) : ∃ i : Nat, i < n ∧ ((Int.tmod z n < 0 ∧ IntKind.wrap .i64 (Int.tmod z n + n) = i) ∨ (¬ Int.tmod z n < 0 ∧ Int.tmod z n = i)) := by
  have h1 := Int.tmod_lt_of_pos z (show (0 : Int) < (n : Int) by omega)
  have h2 := Int.lt_tmod_of_pos z (show (0 : Int) < (n : Int) by omega)
  by_cases h : Int.tmod z n < 0
  · refine ⟨(Int.tmod z n + n).toNat, by omega, .inl ⟨h, ?_⟩⟩
    rw [IntKind.wrap_i64]; omega
  · exact ⟨(Int.tmod z n).toNat, by omega, .inr ⟨h, by omega⟩⟩

theorem which6_ok {z : Int} (hl : 0 < L.length) (hl2 : L.length ≤ 1000000) (H : (liR Y L).P h) (hK : ∀ b ∈ L, ∀ h', Upd NoB h h' → K (.agg #[.int .i64 (b.1 : Int), .int .i64 (b.2 : Int)]) h') :
    CallV Try.prog w₀ F.croftlaw6_which [pv c r Y O L, .int .i64 z] h K := by
  refine croftlaw6_which.call ?_
  unfold croftlaw6_which.vc
  have N5 := box6 h (.int .u64 c.base) (.int .i64 c.limit) (.int .i64 c.order) (.int .i64 (r : Int)) (.slice Y.fp (O + 1) Y.fc) (.slice Y.vp L.length Y.vc) T.T_croftref6_Pool
  generalize Array.push h (.cells #[.int .u64 c.base, .int .i64 c.limit, .int .i64 c.order, .int .i64 (r : Int), .slice Y.fp (O + 1) Y.fc, .slice Y.vp L.length Y.vc] T.T_croftref6_Pool) = h5 at N5 ⊢
  have N6 := box2 h5 (.int .i64 0) (.int .i64 0) T.T_croftref6_Block
  generalize Array.push h5 (.cells #[.int .i64 0, .int .i64 0] T.T_croftref6_Block) = h6 at N6 ⊢
  obtain ⟨b0, eb0⟩ : ∃ b0, b0 = h.size := ⟨_, rfl⟩
  obtain ⟨b1, eb1⟩ : ∃ b1, b1 = h5.size := ⟨_, rfl⟩
  rw [← eb0] at N5 ⊢
  rw [← eb1] at N6 ⊢
  have I0 := ((Hold.nil h).new N5).new N6
  obtain ⟨k0, k1, k2, k3, k4, k5⟩ := f6_cells (I0.at 1)
  have R0 : Row h Y.vp ((prL L).length * 2) (runV (prL L)) := by rw [prL_len]; exact sl_row H
  refine ⟨_, _, _, k5, by omega, fun J3 hJ3 => ?_⟩
  obtain ⟨i, hi, hz⟩ := mod_add (z := z) hl hl2
  have m3 : J3 [.pointer (some ⟨b0, 0, none⟩), .pointer (some ⟨b1, 0, none⟩), .int .i64 (i : Int)] h6 := by
    obtain ⟨a, ea, r1, r2⟩ := row_run R0 I0.u (i := i) (by rw [prL_len]; exact hi)
    have eg : (prL L).getD i (0, 0) = prV (L.getD i (0, 0)) := by
      rw [List.getD_eq_getElem?_getD, List.getElem?_map, List.getD_eq_getElem?_getD, List.getElem?_eq_getElem hi]; rfl
    have hm : L.getD i (0, 0) ∈ L := by rw [List.getD_eq_getElem?_getD, List.getElem?_eq_getElem hi]; exact List.getElem_mem hi
    rw [eg] at r1 r2
    generalize L.getD i (0, 0) = b at hm r1 r2
    refine hJ3 _ _ _ _ ⟨_, _, _, k5, a, ea, by omega, by omega, _, r1, _, r2, ?_⟩
    obtain ⟨w7, S7⟩ := assign2 (I0.at 0) (.int .i64 (b.1 : Int)) (.int .i64 (b.2 : Int))
    have I7 := I0.step 0 S7
    refine ⟨w7, ?_⟩
    generalize setCs h6 ⟨b1, 0, none⟩ 0 [.int .i64 (b.1 : Int), .int .i64 (b.2 : Int)] = h7 at I7 ⊢
    obtain ⟨k0, k1⟩ := f2_cells (I7.at 0)
    exact ⟨_, k0, _, k1, hK b hm h7 I7.u⟩
  rcases hz with ⟨a1, a2⟩ | ⟨a1, a2⟩
  · exact iT (decide_eq_true a1) ⟨_, _, _, k5, by rw [a2]; exact m3⟩
  · exact iF (decide_eq_false a1) (by rw [a2]; exact m3)

set_option maxHeartbeats 1000000 in
theorem lists6_ok (W : WI c x fl L) (hOo : x.m.o = O) (H : (ptR c O Q x Y fl L).P h) (hK : ∀ h', Stp h h' (ptR c O Q x Y fl L) (ptR c O Q x Y fl L) → K (.bool true) h') :
    CallV Try.prog w₀ F.croftlaw6_lists [.pointer (some ⟨Q.pb, 0, none⟩), pv c x.st.n Y O L] h K := by
  refine croftlaw6_lists.call ?_
  unfold croftlaw6_lists.vc
  have hO := W.ok.m.o8
  have hco := W.ok.o
  have hb := bu_bounds W.g W.ok.m
  have fo := W.flOk
  rw [hOo] at hO hco fo
  have N5 := box6 h (.int .u64 c.base) (.int .i64 c.limit) (.int .i64 c.order) (.int .i64 (x.st.n : Int)) (.slice Y.fp (O + 1) Y.fc) (.slice Y.vp L.length Y.vc) T.T_croftref6_Pool
  generalize Array.push h (.cells #[.int .u64 c.base, .int .i64 c.limit, .int .i64 c.order, .int .i64 (x.st.n : Int), .slice Y.fp (O + 1) Y.fc, .slice Y.vp L.length Y.vc] T.T_croftref6_Pool) = h5 at N5 ⊢
  obtain ⟨b0, eb0⟩ : ∃ b0, b0 = h.size := ⟨_, rfl⟩
  rw [← eb0] at N5 ⊢
  have I0 : Go.V.Own h h5 (andR (plR c Q x) (rfR Y O fl L)) [plR c Q x, blkR b0 6 (pvF c x.st.n Y O L), rfR Y O fl L] := ((Go.V.Own.of H).split.new N5).perm (.swap _ _ _)
  have p8 := pow8 hO
  intro J2 hJ2 L9 hL9
  have key : ∀ (d k : Nat) (hx : Heap), k + d = O + 1 → Go.V.Own h hx (andR (plR c Q x) (rfR Y O fl L)) [plR c Q x, blkR b0 6 (pvF c x.st.n Y O L), rfR Y O fl L] → L9 [.pointer (some ⟨Q.pb, 0, none⟩), .pointer (some ⟨b0, 0, none⟩), .int .i64 (k : Int)] hx := by
    intro d
    induction d with
    | zero =>
      intro k hx hk I
      obtain ⟨k0, k1, k2, k3, k4, k5⟩ := f6_cells (I.at 1)
      have P : (plR c Q x).P hx := I.at 0
      refine hL9 _ _ _ _ ⟨_, k2, iF (decide_eq_false (by omega)) (hJ2 _ _ _ ⟨_, rfl, _, k3, ground_Space_ok P ⟨_, rfl, k3, mem_Regions_ok (bu_sp (pl_bu P)) ⟨_, rfl, k3, fun J5 hJ5 => qT (beq_self_eq_true _) ⟨_, rfl, _, k3, _, k2, ground_Map_ok P ⟨_, rfl, k2, k3, pm_Pages_ok (bu_map (pl_bu P)) ⟨_, rfl, k2, k3, PowerZ hco.symm (by omega) ⟨_, rfl, k3, hJ5 _ _ ?_⟩⟩⟩⟩⟩⟩⟩)⟩
      rw [show IntKind.wrap .i64 ((x.st.n : Int) * ((2 ^ O : Nat) : Int)) = (x.m.n : Int) by
        rw [← Int.natCast_mul, ← hOo, ← W.e]
        exact wrN (by have := W.ok.m.n1; omega), beq_self_eq_true]
      exact hK hx (I.two 0 2)
    | succ d ih =>
      intro k hx hk I
      have hkO : k ≤ O := by omega
      obtain ⟨k0, k1, k2, k3, k4, k5⟩ := f6_cells (I.at 1)
      have P : (plR c Q x).P hx := I.at 0
      refine hL9 _ _ _ _ ⟨_, k2, iT (decide_eq_true (by omega)) fun J10 hJ10 => ⟨_, rfl, ground_Buddy_ok P ⟨_, rfl, ?_⟩⟩⟩
      refine freeB W (pl_bu P) (o := k) (by omega) fun h9 p9 c9 S9 => ⟨_, _, _, rfl, ?_⟩
      have I9 := (I.step 0 (pl_liftx P S9)).split
      have I9 : Go.V.Own h h9 (andR (plR c Q x) (rfR Y O fl L)) [plR c Q x, slR p9 ((fl k).map (adr c)).length c9 1 (uL ((fl k).map (adr c))), blkR b0 6 (pvF c x.st.n Y O L), rfR Y O fl L] := I9
      obtain ⟨bz, ezp, vz⟩ := fr_cell (I9.at 3 (R := rfR Y O fl L)).1 hkO
      obtain ⟨m0, m1, m2, m3, m4, m5⟩ := f6_cells (I9.at 2)
      have hlen := fo.len k hkO
      refine ⟨_, _, _, m4, _, ezp, by omega, by omega, _, _, _, by rw [at1]; exact vz, iF (eq_b (by simp)) fun L13 hL13 => ?_⟩
      have loop : ∀ (e j : Nat) (hy : Heap), j + e = (fl k).length → Go.V.Own h hy (andR (plR c Q x) (rfR Y O fl L)) [plR c Q x, slR p9 ((fl k).map (adr c)).length c9 1 (uL ((fl k).map (adr c))), blkR b0 6 (pvF c x.st.n Y O L), rfR Y O fl L] →
          L13 [.pointer (some ⟨Q.pb, 0, none⟩), .pointer (some ⟨b0, 0, none⟩), .int .i64 (k : Int), .slice p9 ((fl k).map (adr c)).length c9, .int .i64 (j : Int)] hy := by
        intro e
        induction e with
        | zero =>
          intro j hy hj Iy
          refine hL13 _ _ _ _ _ _ _ _ (iF (decide_eq_false (by rw [List.length_map]; omega)) (hJ10 _ _ _ _ ?_))
          rw [show IntKind.wrap .i64 ((k : Int) + 1) = ((k + 1 : Nat) : Int) by rw [IntKind.wrap_i64]; omega]
          exact ih (k + 1) hy (by omega) (Iy.sub (.cons_cons _ (.cons _ (List.Sublist.refl _))))
        | succ e ihe =>
          intro j hy hj Iy
          have hjl : j < (fl k).length := by omega
          obtain ⟨m0, m1, m2, m3, m4, m5⟩ := f6_cells (Iy.at 2)
          obtain ⟨bz', ezp', vz'⟩ := fr_cell (Iy.at 3 (R := rfR Y O fl L)).1 hkO
          obtain ⟨bl, el, vl⟩ := sl_cell (Iy.at 1) (i := j) (by rw [List.length_map]; omega)
          obtain ⟨bi, ei, vi⟩ := sl_cell (fr_row (Iy.at 3 (R := rfR Y O fl L)).1 hkO) (i := j) (by omega)
          have hmem : (fl k).getD j 0 ∈ fl k := by rw [List.getD_eq_getElem?_getD, List.getElem?_eq_getElem hjl]; exact List.getElem_mem hjl
          have hbd := fo.bd k hkO _ hmem
          have vl : cellAt hy ⟨bl, j, none⟩ = some (.int .u64 (adr c ((fl k).getD j 0))) := by
            rw [vl]; unfold uL
            rw [List.getD_eq_getElem?_getD, List.getElem?_map, List.getD_eq_getElem?_getD, List.getElem?_eq_getElem hjl]; rfl
          refine hL13 _ _ _ _ _ _ _ _ (iT (decide_eq_true (by rw [List.length_map]; omega)) ⟨_, el, by omega, by rw [List.length_map]; omega, _, by rw [at1]; exact vl, _, m0, _, m1, _, m2, _, _, _, m4, _, ezp', by omega, by omega, _, _, _, by rw [at1]; exact vz', _, ei, by omega, by omega, _, by rw [at1]; exact vi, ?_⟩)
          refine Address6_ok ⟨by omega, by omega⟩ (by omega) fun ha ua => ⟨_, rfl, ?_, iF (eq_b rfl) ?_⟩
          · rw [at1]; exact cellAt_upd vl ua id
          rw [show IntKind.wrap .i64 ((j : Int) + 1) = ((j + 1 : Nat) : Int) by rw [IntKind.wrap_i64]; omega]
          exact ihe (j + 1) ha (by omega) (Iy.quiet ua)
      exact loop (fl k).length 0 h9 (by omega) I9
  exact key (O + 1) 0 h5 (by omega) I0
end
end Go.Proofs.Ytippbfnhgooepaa
