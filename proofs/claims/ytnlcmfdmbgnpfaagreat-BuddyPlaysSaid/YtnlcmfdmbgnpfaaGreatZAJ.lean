/- croftlaw5: the document's heads and free blocks, as addresses; two lists lie apart. No condition. -/
import Derived.Test.YtnlcmfdmbgnpfaaGreatZAI
set_option linter.unusedSimpArgs false
set_option linter.unusedVariables false
namespace Go.Proofs.YtnlcmfdmbgnpfaaGreat
open Go.V Classical

theorem take_one {α : Type} (l : List α) (d : α) {i : Nat} (hi : i < l.length) : l.take (i + 1) = l.take i ++ [l.getD i d] := take_ge l i d hi

section
variable {w₀ : World} {h h' : Heap} {c : Cfg} {Q : WZ} {x : BU} {fl : Nat → List Nat} {V : List PBk} {K : Value → Heap → Prop}

theorem uL_app {h0 hx : Heap} {xs : List Int} {v : Int} {p : Option Addr} {cap : Nat} {rs : List Res} (I : Hold h0 hx (slR p xs.length cap 1 (uL xs) :: rs)) (hl : xs.length ≤ 100000) :
    ∃ os, AppPre (hx.push (.cells #[.int .u64 v] T.T_uint64)) p xs.length cap (some ⟨hx.size, 0, none⟩) 1 1 8 os [.int .u64 v] ∧
      ∀ (p' : Option Addr) (c' : Nat) (h' : Heap), AppRes (hx.push (.cells #[.int .u64 v] T.T_uint64)) p xs.length cap 1 [.int .u64 0] T.T_uint64 os [.int .u64 v] p' c' h' → Hold h0 h' (slR p' (xs ++ [v]).length c' 1 (uL (xs ++ [v])) :: rs) := by
  obtain ⟨os, q1, q2⟩ := sl_app1 (zs := [.int .u64 0]) (v := .int .u64 v) (b := 8) (e := T.T_uint64) (T := T.T_uint64) (I.at 0) rfl rfl (by omega)
  refine ⟨os, q1, fun p' c' h' res => ?_⟩
  have I2 := I.step 0 (R := slR p xs.length cap 1 (uL xs)) (R' := slR p' (xs ++ [v]).length c' 1 (uL (xs ++ [v]))) ((q2 p' c' h' res).conv (fun P => ?_) fun _ e => e)
  · exact I2
  · have el : (xs ++ [v]).length = xs.length + 1 := by simp
    rw [el]
    exact sl_congr P fun i hi => uL_snoc xs _ i (by omega)

theorem headsZ_ok (W : WI c x fl V) (H : (wzR c Q x fl V).P h) (hK : ∀ h' p cap, New h h' (slR p (hdL c fl x.m.o).length cap 1 (uL (hdL c fl x.m.o))) → K (.slice p (hdL c fl x.m.o).length cap) h') :
    CallV Tryz.prog w₀ F.croftlaw5_world_heads [.pointer (some ⟨Q.wb, 0, none⟩)] h K := by
  refine croftlaw5_world_heads.call ?_
  unfold croftlaw5_world_heads.vc
  intro J1 hJ1 L2 hL2
  have o8 := W.ok.m.o8
  have eo := W.ok.o
  have n1 := W.ok.m.n1
  have ll := hdL_len c fl x.m.o
  generalize hl : hdL c fl x.m.o = l at hK ll
  have el : ∀ i, i ≤ x.m.o → l.getD i 0 = ((fl i).map (adr c)).headD 0 := fun i hi => by
    rw [← hl]
    unfold hdL
    rw [List.getD_eq_getElem?_getD, List.getElem?_map, List.getElem?_range (by omega)]
    simp
  have key : ∀ (d i : Nat) (y : Option Addr) (cap : Nat) (hx : Heap), i + d = x.m.o + 1 → Hold h hx [slR y (l.take i).length cap 1 (uL (l.take i))] → L2 [.pointer (some ⟨Q.wb, 0, none⟩), .slice y i cap, .int .i64 (i : Int)] hx := by
    intro d
    induction d with
    | zero =>
      intro i y cap hx hi I
      have hi : i = x.m.o + 1 := by omega
      subst hi
      have Hx := (wzR c Q x fl V).st H I.u fun _ _ => id
      refine hL2 _ _ _ _ _ _ ⟨_, rfl, _, wz_cell Hx (i := 2) (by omega), iF (decide_eq_false (by omega)) (hJ1 _ _ _ _ ?_)⟩
      rw [List.take_of_length_le (by omega)] at I
      have := hK hx y cap I.toNew
      rwa [ll] at this
    | succ d ih =>
      intro i y cap hx hi I
      have hik : i ≤ x.m.o := by omega
      have Hx := (wzR c Q x fl V).st H I.u fun _ _ => id
      have lt : (l.take i).length = i := by rw [List.length_take]; omega
      obtain ⟨b8, q1, q2⟩ := fr_cell (wz_rf Hx).1 hik
      have q2' : cellAt hx ((⟨b8, 0, none⟩ : Addr).add (Int.toNat (i : Int) * 1)) = some (.slice (Q.Y.lp i) (fl i).length (Q.Y.lc i)) := by rw [at1]; exact q2
      refine hL2 _ _ _ _ _ _ ⟨_, rfl, _, wz_cell Hx (i := 2) (by omega), iT (decide_eq_true (by omega)) fun J3 hJ3 => ⟨_, rfl, _, _, _, wz_cell Hx (i := 8) (by omega), _, q1, by omega, by omega, _, _, _, q2', ?_⟩⟩
      have fin : ∀ v : Int, v = l.getD i 0 → J3 [.pointer (some ⟨Q.wb, 0, none⟩), .slice y i cap, .int .i64 (i : Int), .int .u64 v] hx := by
        intro v hv
        refine hJ3 _ _ _ _ _ _ _ ?_
        obtain ⟨os, a1, a2⟩ := uL_app (v := v) I (by omega)
        rw [lt] at a1 a2
        refine ⟨os, _, a1, fun p' c' h9 res => ?_⟩
        have I2 := a2 p' c' h9 res
        rw [show IntKind.wrap .i64 ((i : Int) + 1) = ((i + 1 : Nat) : Int) by rw [IntKind.wrap_i64]; omega]
        refine ih (i + 1) p' c' h9 (by omega) ?_
        rw [take_one l 0 (by omega), ← hv]
        exact I2
      cases hf : fl i with
      | nil => exact iF (by simp) (fin _ (by rw [el i hik, hf]; rfl))
      | cons a t =>
        have ha := W.flOk.bd i hik a (by rw [hf]; exact List.mem_cons_self ..)
        obtain ⟨b9, r1, r2⟩ := sl_cell (fr_row (wz_rf Hx).1 hik) (i := 0) (by rw [hf]; simp)
        have r2 : cellAt hx ⟨b9, 0, none⟩ = some (.int .i64 (a : Int)) := by rw [r2, hf]; rfl
        refine iT (by simp) ⟨_, rfl, _, _, _, wz_cell Hx (i := 8) (by omega), _, q1, by omega, by omega, _, _, _, q2', _, r1, by omega, by rw [hf]; simp, _, r2, ?_⟩
        refine atZ_ok (x := x) W.g (by omega) (wz_c0 Hx) W.ok.m ⟨_, rfl, fin _ (by rw [el i hik, hf]; rfl)⟩
  exact key (x.m.o + 1) 0 none 0 h (by omega) ((Hold.nil h).new ⟨Upd.refl _ _, by rw [List.take_zero]; exact sl_nil _ _ _, fun b e => absurd e (by rw [List.take_zero]; exact sl_nil_fp b)⟩)

theorem freeZ_ok {o : Int} (W : WI c x fl V) (H : (wzR c Q x fl V).P h) (hn : (o < 0 ∨ o > x.m.o) → K (.slice none 0 0) h)
    (hK : ∀ (k : Nat), o = k → k ≤ x.m.o → ∀ h' p cap, New h h' (slR p ((fl k).map (adr c)).length cap 1 (uL ((fl k).map (adr c)))) → K (.slice p ((fl k).map (adr c)).length cap) h') :
    CallV Tryz.prog w₀ F.croftlaw5_world_free [.pointer (some ⟨Q.wb, 0, none⟩), .int .i64 o] h K := by
  refine croftlaw5_world_free.call ?_
  unfold croftlaw5_world_free.vc
  have o8 := W.ok.m.o8
  have eo := W.ok.o
  intro J1 hJ1
  by_cases h0 : o < 0
  · exact pT (decide_eq_true h0) (hJ1 _ _ (iT rfl (hn (.inl h0))))
  refine pF (decide_eq_false h0) ⟨_, rfl, _, wz_cell H (i := 2) (by omega), hJ1 _ _ ?_⟩
  by_cases h1 : o > x.m.o
  · exact iT (decide_eq_true (by omega)) (hn (.inr h1))
  obtain ⟨k, rfl⟩ : ∃ k : Nat, o = k := ⟨o.toNat, by omega⟩
  have hk : k ≤ x.m.o := by omega
  have hK := hK k rfl hk
  have f5 := W.flOk.len k hk
  have ll : ((fl k).map (adr c)).length = (fl k).length := by simp
  have el : ∀ i, (hi : i < (fl k).length) → ((fl k).map (adr c)).getD i 0 = adr c ((fl k).getD i 0) := fun i hi => by
    rw [List.getD_eq_getElem?_getD, List.getElem?_map, List.getD_eq_getElem?_getD, List.getElem?_eq_getElem hi]
    simp
  generalize hl : (fl k).map (adr c) = l at hK ll el
  refine iF (decide_eq_false (by omega)) fun J2 hJ2 L3 hL3 => ?_
  have key : ∀ (d i : Nat) (y : Option Addr) (cap : Nat) (hx : Heap), i + d = (fl k).length → Hold h hx [slR y (l.take i).length cap 1 (uL (l.take i))] → L3 [.pointer (some ⟨Q.wb, 0, none⟩), .int .i64 (k : Int), .slice y i cap, .int .i64 (i : Int)] hx := by
    intro d
    induction d with
    | zero =>
      intro i y cap hx hi I
      have hi : i = (fl k).length := by omega
      subst hi
      have Hx := (wzR c Q x fl V).st H I.u fun _ _ => id
      obtain ⟨b8, q1, q2⟩ := fr_cell (wz_rf Hx).1 hk
      have q2' : cellAt hx ((⟨b8, 0, none⟩ : Addr).add (Int.toNat (k : Int) * 1)) = some (.slice (Q.Y.lp k) (fl k).length (Q.Y.lc k)) := by rw [at1]; exact q2
      refine hL3 _ _ _ _ _ _ _ ⟨_, rfl, _, _, _, wz_cell Hx (i := 8) (by omega), _, q1, by omega, by omega, _, _, _, q2', iF (decide_eq_false (by omega)) (hJ2 _ _ _ _ ?_)⟩
      rw [List.take_of_length_le (by omega)] at I
      have := hK hx y cap I.toNew
      rwa [ll] at this
    | succ d ih =>
      intro i y cap hx hi I
      have Hx := (wzR c Q x fl V).st H I.u fun _ _ => id
      have lt : (l.take i).length = i := by rw [List.length_take]; omega
      obtain ⟨b8, q1, q2⟩ := fr_cell (wz_rf Hx).1 hk
      have q2' : cellAt hx ((⟨b8, 0, none⟩ : Addr).add (Int.toNat (k : Int) * 1)) = some (.slice (Q.Y.lp k) (fl k).length (Q.Y.lc k)) := by rw [at1]; exact q2
      obtain ⟨b9, r1, r2⟩ := sl_cell (fr_row (wz_rf Hx).1 hk) (i := i) (by omega)
      have r2 : cellAt hx ((⟨b9, 0, none⟩ : Addr).add (Int.toNat (i : Int) * 1)) = some (.int .i64 (((fl k).getD i 0 : Nat) : Int)) := by rw [at1]; exact r2
      have hb := W.flOk.bd k hk ((fl k).getD i 0) (by rw [List.getD_eq_getElem?_getD, List.getElem?_eq_getElem (by omega)]; exact List.getElem_mem _)
      refine hL3 _ _ _ _ _ _ _ ⟨_, rfl, _, _, _, wz_cell Hx (i := 8) (by omega), _, q1, by omega, by omega, _, _, _, q2', iT (decide_eq_true (by omega)) ⟨_, rfl, _, _, _, wz_cell Hx (i := 8) (by omega), _, q1, by omega, by omega, _, _, _, q2', _, r1, by omega, by omega, _, r2, ?_⟩⟩
      refine atZ_ok (x := x) W.g (by omega) (wz_c0 Hx) W.ok.m ⟨_, rfl, ?_⟩
      obtain ⟨os, a1, a2⟩ := uL_app (v := adr c ((fl k).getD i 0)) I (by omega)
      rw [lt] at a1 a2
      refine ⟨os, _, a1, fun p' c' h9 res => ?_⟩
      have I2 := a2 p' c' h9 res
      rw [show IntKind.wrap .i64 ((i : Int) + 1) = ((i + 1 : Nat) : Int) by rw [IntKind.wrap_i64]; omega]
      refine ih (i + 1) p' c' h9 (by omega) ?_
      rw [take_one l 0 (by omega), el i (by omega)]
      exact I2
  exact key (fl k).length 0 none 0 h (by omega) ((Hold.nil h).new ⟨Upd.refl _ _, by rw [List.take_zero]; exact sl_nil _ _ _, fun b e => absurd e (by rw [List.take_zero]; exact sl_nil_fp b)⟩)
end
end Go.Proofs.YtnlcmfdmbgnpfaaGreat
