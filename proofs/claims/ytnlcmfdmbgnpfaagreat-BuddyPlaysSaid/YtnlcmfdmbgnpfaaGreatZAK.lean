/- croftlaw5: two lists lie apart, spare room too. No condition. -/
import Derived.Test.YtnlcmfdmbgnpfaaGreatZAJ
set_option linter.unusedSimpArgs false
set_option linter.unusedVariables false
namespace Go.Proofs.YtnlcmfdmbgnpfaaGreat
open Go.V Classical

section
variable {w₀ : World} {h h' : Heap} {K : Value → Heap → Prop}

theorem sl_app1W {p : Option Addr} {n C c : Nat} {f : Nat → Value} {zs : List Value} {v : Value} {b : Nat} {e T : TypeId} (hc : c = C ∨ c = n) (H : (slR p n C zs.length f).P h) (hz : zs.length = 1) (ho : oneC v = true) (hb : 2 * (n + 1) * b ≤ 2 ^ 48) :
    ∃ os, AppPre (h.push (.cells #[v] T)) p n c (some ⟨h.size, 0, none⟩) 1 1 b os [v] ∧ ∀ (p' : Option Addr) (c' : Nat) (h' : Heap), AppRes (h.push (.cells #[v] T)) p n c 1 zs e os [v] p' c' h' →
      Stp h h' (slR p n C 1 f) (slR p' (n + 1) c' 1 fun i => if i = n then v else f i) := by
  rcases hc with rfl | rfl
  · exact sl_app1 H hz ho hb
  have u : Upd (fun _ => False) h (h.push (.cells #[v] T)) := push_upd _ _ _
  have H' := (slR p c C zs.length f).st H u fun _ _ => id
  rw [hz] at H H'
  refine ⟨lst c f, ⟨by simp, by have := (sl_row H').rowAt; rwa [Nat.mul_one] at this, rfl, row1 h v T, fun hc => absurd hc (by omega), fun hc => Nat.le_trans (Nat.mul_le_mul_right b (nextslicecap_le hc)) hb⟩, fun p' c' h' hres => ?_⟩
  rcases hres with ⟨r1, _⟩ | ⟨r1, r2, rfl, rfl⟩
  · omega
  refine ⟨(u.nx (push_upd _ _ _) fun _ e _ => e).mono fun _ e _ => e.elim, ⟨r2, .inr ⟨_, fun i => (lst c f ++ [v] ++ zrow zs (c' - (c + 1))).getD i undef, rfl, ?_, fun i hi => ?_⟩⟩, fun x hx' => .inr ?_⟩
  · refine blk_list _ _ _ _ ?_
    simp only [List.length_append, lst_length, zrow_length, hz]
    simp; omega
  · show List.getD _ i undef = (if i = c then v else f i)
    rw [Nat.mul_one] at hi
    by_cases h1 : i = c
    · subst h1
      rw [if_pos rfl, List.getD_eq_getElem?_getD, List.append_assoc, List.getElem?_append_right (by simp), lst_length, Nat.sub_self]
      rfl
    · rw [if_neg h1, List.getD_eq_getElem?_getD, List.append_assoc, List.getElem?_append_left (by simp; omega), lst_get (by omega)]; rfl
  · have hx' : some (⟨(h.push (.cells #[v] T)).size, 0, none⟩ : Addr) = some ⟨x, 0, none⟩ := hx'
    have := u.1
    simp at hx'
    simp at this
    omega

theorem apart5_ok {pa pb : Option Addr} {n m ca cb Ca Cb : Nat} {f g : Nat → Value} (hca : ca = Ca ∨ ca = n) (hcb : cb = Cb ∨ cb = m) (hn : n ≤ 100000) (hm : m ≤ 100000) (H : (andR (slR pa n Ca 1 f) (slR pb m Cb 1 g)).P h) (hK : ∀ h', Stp h h' (andR (slR pa n Ca 1 f) (slR pb m Cb 1 g)) noR → K (.bool true) h') :
    CallV Tryz.prog w₀ F.croftlaw5_apart [.slice pa n ca, .slice pb m cb] h K := by
  refine croftlaw5_apart.call ?_
  unfold croftlaw5_apart.vc
  intro J1 hJ1 L15 hL15
  generalize hE : andR (slR pa n Ca 1 f) (slR pb m Cb 1 g) = E at H hK
  have I0 : Go.V.Own h h E [slR pa n Ca 1 f, slR pb m Cb 1 g] := by have := (Go.V.Own.of H); rw [← hE] at this ⊢; exact this.split
  let fa : Nat → Value := fun _ => .int .u64 1001
  let fb : Nat → Value := fun _ => .int .u64 1002
  -- the last reads
  have e4 : ∀ (d i : Nat) (hx : Heap) (p8 : Option Addr) (c8 C8 : Nat), i + d = m + 40 → Go.V.Own h hx E [slR p8 (m + 40) C8 1 fb] → ∀ (J5 : List Value → Heap → Prop) (hJ5 : ∀ hh, K (.bool true) hh → J5 [] hh) (L6 : List Value → Heap → Prop),
      (∀ (y1p : Option Addr) (y1n y1c : Nat) (y8p : Option Addr) (y8n y8c : Nat) (y11 : Int) (hL6 : Heap), (((decide (y11 < (IntKind.wrap .i64 (((y1n : Nat) : Int) + (40 : Int))))) = true → (∃ a63 : Addr, y8p = some a63 ∧ 0 ≤ y11 ∧ y11 < (y8n : Nat) ∧ (∃ n64 : Int, cellAt hL6 (a63.add (Int.toNat y11 * 1)) = some (.int .u64 n64) ∧ (((n64 != (1002 : Int)) = true → K (.bool false) hL6) ∧ ((n64 != (1002 : Int)) = false → L6 [.slice y1p y1n y1c, .slice y8p y8n y8c, (.int .i64 (IntKind.wrap .i64 (y11 + (1 : Int))))] hL6))))) ∧ ((decide (y11 < (IntKind.wrap .i64 (((y1n : Nat) : Int) + (40 : Int))))) = false → J5 [] hL6)) → L6 [.slice y1p y1n y1c, .slice y8p y8n y8c, .int .i64 y11] hL6) →
      L6 [.slice pb m cb, .slice p8 (m + 40) c8, .int .i64 (i : Int)] hx := by
    intro d
    induction d with
    | zero =>
      intro i hx p8 c8 C8 hi I J5 hJ5 L6 hL6
      refine hL6 _ _ _ _ _ _ _ _ (iF (decide_eq_false (by rw [IntKind.wrap_i64]; omega)) (hJ5 _ (hK _ ?_)))
      exact ⟨I.u, trivial, fun b e => e.elim⟩
    | succ d ih =>
      intro i hx p8 c8 C8 hi I J5 hJ5 L6 hL6
      obtain ⟨b, e, r⟩ := sl_cell (I.at 0) (i := i) (by omega)
      refine hL6 _ _ _ _ _ _ _ _ (iT (decide_eq_true (by rw [IntKind.wrap_i64]; omega)) ⟨_, e, by omega, by omega, 1002, by rw [at1]; exact r, iF rfl ?_⟩)
      rw [show IntKind.wrap .i64 ((i : Int) + 1) = ((i + 1 : Nat) : Int) by rw [IntKind.wrap_i64]; omega]
      exact ih (i + 1) hx p8 c8 C8 (by omega) I J5 hJ5 L6 hL6
  have e3 : ∀ (d i : Nat) (hx : Heap) (p7 p8 : Option Addr) (c7 c8 C7 C8 : Nat), i + d = n + 40 → Go.V.Own h hx E [slR p7 (n + 40) C7 1 fa, slR p8 (m + 40) C8 1 fb] → ∀ (J4 : List Value → Heap → Prop) (hJ4 : J4 [.slice pb m cb, .slice p8 (m + 40) c8] hx) (L7 : List Value → Heap → Prop),
      (∀ (y0p : Option Addr) (y0n y0c : Nat) (y1p : Option Addr) (y1n y1c : Nat) (y7p : Option Addr) (y7n y7c : Nat) (y8p : Option Addr) (y8n y8c : Nat) (y10 : Int) (hL7 : Heap), (((decide (y10 < (IntKind.wrap .i64 (((y0n : Nat) : Int) + (40 : Int))))) = true → (∃ a51 : Addr, y7p = some a51 ∧ 0 ≤ y10 ∧ y10 < (y7n : Nat) ∧ (∃ n52 : Int, cellAt hL7 (a51.add (Int.toNat y10 * 1)) = some (.int .u64 n52) ∧ (((n52 != (1001 : Int)) = true → K (.bool false) hL7) ∧ ((n52 != (1001 : Int)) = false → L7 [.slice y0p y0n y0c, .slice y1p y1n y1c, .slice y7p y7n y7c, .slice y8p y8n y8c, (.int .i64 (IntKind.wrap .i64 (y10 + (1 : Int))))] hL7))))) ∧ ((decide (y10 < (IntKind.wrap .i64 (((y0n : Nat) : Int) + (40 : Int))))) = false → J4 [.slice y1p y1n y1c, .slice y8p y8n y8c] hL7)) → L7 [.slice y0p y0n y0c, .slice y1p y1n y1c, .slice y7p y7n y7c, .slice y8p y8n y8c, .int .i64 y10] hL7) →
      L7 [.slice pa n ca, .slice pb m cb, .slice p7 (n + 40) c7, .slice p8 (m + 40) c8, .int .i64 (i : Int)] hx := by
    intro d
    induction d with
    | zero =>
      intro i hx p7 p8 c7 c8 C7 C8 hi I J4 hJ4 L7 hL7
      exact hL7 _ _ _ _ _ _ _ _ _ _ _ _ _ _ (iF (decide_eq_false (by rw [IntKind.wrap_i64]; omega)) hJ4)
    | succ d ih =>
      intro i hx p7 p8 c7 c8 C7 C8 hi I J4 hJ4 L7 hL7
      obtain ⟨b, e, r⟩ := sl_cell (I.at 0) (i := i) (by omega)
      refine hL7 _ _ _ _ _ _ _ _ _ _ _ _ _ _ (iT (decide_eq_true (by rw [IntKind.wrap_i64]; omega)) ⟨_, e, by omega, by omega, 1001, by rw [at1]; exact r, iF rfl ?_⟩)
      rw [show IntKind.wrap .i64 ((i : Int) + 1) = ((i + 1 : Nat) : Int) by rw [IntKind.wrap_i64]; omega]
      exact ih (i + 1) hx p7 p8 c7 c8 C7 C8 (by omega) I J4 hJ4 L7 hL7
  have w1 : ∀ (d i : Nat) (hx : Heap), i + d = n → Go.V.Own h hx E [slR pa n Ca 1 (fun j => if j < i then fa j else f j), slR pb m Cb 1 g] → L15 [.slice pa n ca, .slice pb m cb, .int .i64 (i : Int)] hx := by
    intro d
    induction d with
    | succ d ih =>
      intro i hx hi I
      obtain ⟨b, e, w, S⟩ := sl_set (I.at 0) (o := i) (by omega) (.int .u64 1001)
      refine hL15 _ _ _ _ _ _ _ _ (iT (decide_eq_true (by omega)) ⟨_, e, by omega, by omega, by rw [at1]; exact w, ?_⟩)
      have I2 := I.step 0 (R' := slR pa n Ca 1 (fun j => if j < i + 1 then fa j else f j)) (S.conv (fun P => sl_congr P fun j hj => by
        by_cases h1 : j = i
        · subst h1; rw [if_pos rfl, if_pos (by omega)]
        · rw [if_neg h1]
          by_cases h2 : j < i
          · rw [if_pos h2, if_pos (by omega)]
          · rw [if_neg h2, if_neg (by omega)]) fun _ e => e)
      rw [show IntKind.wrap .i64 ((i : Int) + 1) = ((i + 1 : Nat) : Int) by rw [IntKind.wrap_i64]; omega, at1]
      exact ih (i + 1) _ (by omega) I2
    | zero =>
      intro i hx hi I
      have hi : i = n := by omega
      subst hi
      refine hL15 _ _ _ _ _ _ _ _ (iF (decide_eq_false (by omega)) (hJ1 _ _ _ _ _ _ _ fun J2 hJ2 L13 hL13 => ?_))
      have I := I.as 0 (R := slR pa i Ca 1 (fun j => if j < i then fa j else f j)) (R' := slR pa i Ca 1 fa) (fun P => sl_congr P fun j hj => by rw [if_pos (by omega)]) fun _ e => e
      have I : Go.V.Own h hx E [slR pa i Ca 1 fa, slR pb m Cb 1 g] := I
      have w2 : ∀ (d k : Nat) (hx : Heap), k + d = m → Go.V.Own h hx E [slR pa i Ca 1 fa, slR pb m Cb 1 (fun j => if j < k then fb j else g j)] → L13 [.slice pa i ca, .slice pb m cb, .int .i64 (k : Int)] hx := by
        intro d
        induction d with
        | succ d ih =>
          intro k hx hk I
          obtain ⟨b, e, w, S⟩ := sl_set (I.at 1) (o := k) (by omega) (.int .u64 1002)
          refine hL13 _ _ _ _ _ _ _ _ (iT (decide_eq_true (by omega)) ⟨_, e, by omega, by omega, by rw [at1]; exact w, ?_⟩)
          have I2 := I.step 1 (R' := slR pb m Cb 1 (fun j => if j < k + 1 then fb j else g j)) (S.conv (fun P => sl_congr P fun j hj => by
            by_cases h1 : j = k
            · subst h1; rw [if_pos rfl, if_pos (by omega)]
            · rw [if_neg h1]
              by_cases h2 : j < k
              · rw [if_pos h2, if_pos (by omega)]
              · rw [if_neg h2, if_neg (by omega)]) fun _ e => e)
          rw [show IntKind.wrap .i64 ((k : Int) + 1) = ((k + 1 : Nat) : Int) by rw [IntKind.wrap_i64]; omega, at1]
          exact ih (k + 1) _ (by omega) I2
        | zero =>
          intro k hx hk I
          have hk : k = m := by omega
          subst hk
          refine hL13 _ _ _ _ _ _ _ _ (iF (decide_eq_false (by omega)) (hJ2 _ _ _ _ _ _ _ fun J3 hJ3 L8 hL8 => ?_))
          have I := I.as 1 (R := slR pb k Cb 1 (fun j => if j < k then fb j else g j)) (R' := slR pb k Cb 1 fb) (fun P => sl_congr P fun j hj => by rw [if_pos (by omega)]) fun _ e => e
          have I : Go.V.Own h hx E [slR pa i Ca 1 fa, slR pb k Cb 1 fb] := I
          have w3 : ∀ (d z : Nat) (hx : Heap) (p7 p8 : Option Addr) (c7 c8 C7 C8 : Nat), z + d = 40 → (c7 = C7 ∨ c7 = i + z) → (c8 = C8 ∨ c8 = k + z) → Go.V.Own h hx E [slR p7 (i + z) C7 1 fa, slR p8 (k + z) C8 1 fb] → L8 [.slice pa i ca, .slice pb k cb, .slice p7 (i + z) c7, .slice p8 (k + z) c8, .int .i64 (z : Int)] hx := by
            intro d
            induction d with
            | zero =>
              intro z hx p7 p8 c7 c8 C7 C8 hz hc7 hc8 I
              have hz : z = 40 := by omega
              subst hz
              refine hL8 _ _ _ _ _ _ _ _ _ _ _ _ _ _ (iF rfl (hJ3 _ _ _ _ _ _ _ _ _ _ _ _ _ fun J4 hJ4 L7 hL7 => ?_))
              exact e3 (i + 40) 0 hx p7 p8 c7 c8 C7 C8 (by omega) I J4 (hJ4 _ _ _ _ _ _ _ fun J5 hJ5 L6 hL6 => e4 (k + 40) 0 hx p8 c8 C8 (by omega) I.drop J5 hJ5 L6 hL6) L7 hL7
            | succ d ih =>
              intro z hx p7 p8 c7 c8 C7 C8 hz hc7 hc8 I
              refine hL8 _ _ _ _ _ _ _ _ _ _ _ _ _ _ (iT (decide_eq_true (by omega)) ?_)
              obtain ⟨os, q1, q2⟩ := sl_app1W (zs := [.int .u64 0]) (v := .int .u64 1001) (b := 8) (e := T.T_uint64) (T := T.T_uint64) hc7 (I.at 0) rfl rfl (by omega)
              refine ⟨os, _, q1, fun p' c' h9 res => ?_⟩
              have I2 := I.step 0 (R := slR p7 (i + z) C7 1 fa) (R' := slR p' (i + (z + 1)) c' 1 fa) ((q2 p' c' h9 res).conv (fun P => sl_congr P fun j hj => by split <;> rfl) fun _ e => e)
              have I2 : Go.V.Own h h9 E [slR p' (i + (z + 1)) c' 1 fa, slR p8 (k + z) C8 1 fb] := I2
              obtain ⟨os, q3, q4⟩ := sl_app1W (zs := [.int .u64 0]) (v := .int .u64 1002) (b := 8) (e := T.T_uint64) (T := T.T_uint64) hc8 (I2.at 1) rfl rfl (by omega)
              refine ⟨os, _, q3, fun p'' c'' h10 res => ?_⟩
              have I3 := I2.step 1 (R := slR p8 (k + z) C8 1 fb) (R' := slR p'' (k + (z + 1)) c'' 1 fb) ((q4 p'' c'' h10 res).conv (fun P => sl_congr P fun j hj => by split <;> rfl) fun _ e => e)
              rw [show IntKind.wrap .i64 ((z : Int) + 1) = ((z + 1 : Nat) : Int) by rw [IntKind.wrap_i64]; omega]
              exact ih (z + 1) h10 p' p'' c' c'' c' c'' (by omega) (.inl rfl) (.inl rfl) I3
          exact w3 40 0 hx pa pb ca cb Ca Cb (by omega) hca hcb I
      exact w2 m 0 hx (by omega) (I.as 1 (R' := slR pb m Cb 1 (fun j => if j < 0 then fb j else g j)) (fun P => sl_congr P fun j hj => by rw [if_neg (by omega)]) fun _ e => e)
  exact w1 n 0 h (by omega) (I0.as 0 (R' := slR pa n Ca 1 (fun j => if j < 0 then fa j else f j)) (fun P => sl_congr P fun j hj => by rw [if_neg (by omega)]) fun _ e => e)
end
end Go.Proofs.YtnlcmfdmbgnpfaaGreat
