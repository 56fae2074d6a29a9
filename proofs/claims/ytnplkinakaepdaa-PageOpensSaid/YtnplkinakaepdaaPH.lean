/- Chapter 4's law PageKept. No condition. -/
import Derived.Test.YtnplkinakaepdaaPG
set_option linter.unusedSimpArgs false
set_option linter.unusedVariables false
namespace Go.Proofs.Ytnplkinakaepdaa
open Go.V Classical

/-- A slice, and what came of it by appending: in the same block, or in another. -/
def aliasR (p : Option Addr) (n c : Nat) (f : Nat → Value) (q : Option Addr) (m d : Nat) (g : Nat → Value) : Res := ⟨fun b => p = some ⟨b, 0, none⟩ ∨ q = some ⟨b, 0, none⟩,
  fun h => (slR p n c 1 f).P h ∧ (slR q m d 1 g).P h ∧ n ≤ m ∧ (q = p → d = c) ∧ ∀ j, j < n → g j = f j,
  fun H hu hs => ⟨(slR _ _ _ _ _).st H.1 hu fun b e => hs b (.inl e), (slR _ _ _ _ _).st H.2.1 hu fun b e => hs b (.inr e), H.2.2⟩,
  fun H b e => e.elim ((slR _ _ _ _ _).lt H.1 b) ((slR _ _ _ _ _).lt H.2.1 b)⟩

theorem alias_start {p : Option Addr} {n c : Nat} {f : Nat → Value} {h : Heap} (H : (slR p n c 1 f).P h) : (aliasR p n c f p n c f).P h := ⟨H, H, Nat.le_refl _, fun _ => rfl, fun _ _ => rfl⟩

theorem alias_app {p q : Option Addr} {n c m d : Nat} {f g : Nat → Value} {h : Heap} {zs : List Value} {v : Value} {b : Nat} {e T : TypeId} (H : (aliasR p n c f q m d g).P h) (hz : zs.length = 1) (ho : oneC v = true) (hb : 2 * (m + 1) * b ≤ 2 ^ 48) :
    ∃ os, AppPre (h.push (.cells #[v] T)) q m d (some ⟨h.size, 0, none⟩) 1 1 b os [v] ∧ ∀ (p' : Option Addr) (c' : Nat) (h' : Heap), AppRes (h.push (.cells #[v] T)) q m d 1 zs e os [v] p' c' h' →
      Stp h h' (aliasR p n c f q m d g) (aliasR p n c f p' (m + 1) c' fun i => if i = m then v else g i) := by
  obtain ⟨hA, hB, hnm, hqp, hg⟩ := H
  obtain ⟨os, h1, h2⟩ := sl_app1 (zs := zs) (v := v) (b := b) (e := e) (T := T) (h := h) (p := q) (n := m) (c := d) (f := g) (by rw [hz]; exact hB) hz ho hb
  refine ⟨os, h1, fun p' c' h' hr => ?_⟩
  have S := h2 p' c' h' hr
  have uP : Upd (fun _ => False) h (h.push (.cells #[v] T)) := push_upd _ _ _
  refine ⟨S.u.mono fun b e _ => .inr e, ?_, fun b e => ?_⟩
  · refine ⟨?_, S.p, by omega, ?_, fun j hj => ?_⟩
    case refine_3 =>
      have : j ≠ m := by omega
      simp only [this, if_false]
      exact hg j hj
    · rcases hr with ⟨r1, rfl, rfl, rfl⟩ | ⟨r1, r2, rfl, rfl⟩
      · by_cases e : p' = p
        · have hdc := hqp e
          subst e hdc
          obtain ⟨hc, ⟨e1, e2⟩ | ⟨b, k, e1, B, hk⟩⟩ := S.p
          · omega
          · refine ⟨by omega, .inr ⟨b, k, e1, B, fun i hi => ?_⟩⟩
            rw [hk i (by omega)]
            have : i ≠ m := by omega
            simp only [this, if_false]
            exact hg i (by omega)
        · refine (slR _ _ _ _ _).st hA S.u fun b e1 e2 => e ?_
          have e1 : p = some ⟨b, 0, none⟩ := e1
          have e2 : p' = some ⟨b, 0, none⟩ := e2
          rw [e1, e2]
      · exact (slR _ _ _ _ _).st ((slR _ _ _ _ _).st hA uP fun _ _ => id) (push_upd (fun _ => False) _ _) fun _ _ => id
    · rcases hr with ⟨r1, rfl, rfl, rfl⟩ | ⟨r1, r2, rfl, rfl⟩
      · exact hqp
      · intro e
        have := (slR _ _ _ _ _).lt hA (h.push (.cells #[v] T)).size (by rw [← e]; rfl)
        simp at this; omega
  · rcases e with e | e
    · exact .inl (.inl e)
    · exact (S.g b e).imp (fun x => Or.inr x) id

theorem putP_ne' {pg : Nat → Nat → Int} {m i : Nat} {Q : Nat → Int} (h : i ≠ m) : putP pg m Q i = pg i := by unfold putP; rw [if_neg h]

/-- append(s, v) of a page, v in a box that is new. -/
theorem sl_appPg {h : Heap} {p : Option Addr} {n c : Nat} {pg : Nat → Nat → Int} (P : Nat → Int) (H : (slR p n c 11 (pgF pg)).P h) (hb : 2 * (n + 1) * 88 ≤ 2 ^ 48) :
    ∃ os, AppPre (h.push (.cells (pgL P).toArray T.T_api_Page)) p n c (some ⟨h.size, 0, none⟩) 1 11 88 os (pgL P) ∧ ∀ (p' : Option Addr) (c' : Nat) (h' : Heap), AppRes (h.push (.cells (pgL P).toArray T.T_api_Page)) p n c 1 zpL T.T_api_Page os (pgL P) p' c' h' →
      Stp h h' (slR p n c 11 (pgF pg)) (slR p' (n + 1) c' 11 (pgF (putP pg n P))) := by
  have A := pg_new h P
  have H' := (slR p n c 11 (pgF pg)).st H A.u fun _ _ => id
  have hrow : Go.V.rowAt (h.push (.cells (pgL P).toArray T.T_api_Page)) (some ⟨h.size, 0, none⟩) (pgL P) := by
    intro j v hj
    have hj11 : j < 11 := (List.getElem?_eq_some_iff.1 hj).1
    rw [pgL_get P hj11] at hj
    cases hj
    rw [add_mk, Nat.zero_add]
    exact Blk.cell (f := fun j => pcl j (P j)) A.p hj11
  obtain ⟨os, h1, h2⟩ := sl_app (e := T.T_api_Page) (b := 88) (zs := zpL) (m := 1) H' (by decide) (by rfl) hrow (pgL_one P) (by omega)
  refine ⟨os, h1, fun p' c' h' hr => ?_⟩
  refine ((Stp.quiet H A.u).trans (h2 p' c' h' hr)).conv (fun P' => sl_congr P' fun i hi => ?_) fun _ e => e
  have hl : zpL.length = 11 := rfl
  rw [hl]
  by_cases h3 : i < n * 11
  · rw [if_pos h3]
    unfold pgF
    rw [putP_ne' (by omega)]
  · rw [if_neg h3]
    obtain ⟨j, hj, rfl⟩ : ∃ j, j < 11 ∧ i = n * 11 + j := ⟨i - n * 11, by omega, by omega⟩
    rw [pgF_at _ hj, show n * 11 + j - n * 11 = j by omega, pgL_getD P hj]
    unfold putP; rw [if_pos rfl]

end Go.Proofs.Ytnplkinakaepdaa
