/- croftref5: paint. No condition. -/
import Derived.Test.YtnlcmfdmbgnpfaaGreatZA5
set_option linter.unusedSimpArgs false
set_option linter.unusedVariables false
namespace Go.Proofs.YtnlcmfdmbgnpfaaGreat
open Go.V Classical

def pgsV (G : Nat → Nat → Int) : Nat → Value := fun i => pcl (i % 11) (G (i / 11) (i % 11))

def paintP (kind : Int) (order i : Nat) : Nat → Int
  | 0 => if i = 0 then kind else kind + 1
  | 1 => (order : Int)
  | 4 => -1
  | 5 => -1
  | 6 => -1
  | _ => 0

def paintT (G : Nat → Nat → Int) (page order : Nat) (kind : Int) (i : Nat) : Nat → Nat → Int := fun q j => if page ≤ q ∧ q < page + i then paintP kind order (q - page) j else G q j

theorem pgsV_set {G G' : Nat → Nat → Int} {r n : Nat} {vs : List Value} (hl : vs.length = 11) (hr : ∀ j, j < 11 → vs.getD j undef = pcl j (G' r j)) (hq : ∀ q, q ≠ r → G' q = G q) (i : Nat) : (if r * 11 ≤ i ∧ i < r * 11 + vs.length then vs.getD (i - r * 11) undef else pgsV G i) = pgsV G' i := by
  unfold pgsV
  rw [hl]
  by_cases h : r * 11 ≤ i ∧ i < r * 11 + 11
  · rw [if_pos h]
    have e1 : i / 11 = r := by omega
    have e2 : i - r * 11 = i % 11 := by omega
    rw [e2, hr _ (by omega), e1]
  · rw [if_neg h, hq _ (by omega)]

section
variable {w₀ : World} {h h0 hx : Heap} {K : Value → Heap → Prop} {G : Nat → Nat → Int} {p : Option Addr} {n c : Nat}

theorem ref5_paint_ok {page order : Nat} {kind : Int} (ho : order ≤ 8) (hp : page ≤ 100000) (hn : n ≤ 100000) (hkd : 0 ≤ kind ∧ kind ≤ 100) (H : (slR p n c 11 (pgsV G)).P h)
    (hK : ∀ h', Stp h h' (slR p n c 11 (pgsV G)) (slR p n c 11 (pgsV (paintT G page order kind (2 ^ order)))) → K (.tuple #[]) h') :
    CallV Tryz.prog w₀ F.croftref5_paint [.slice p n c, .int .i64 (page : Int), .int .i64 (order : Int), .int .i64 kind] h K := by
  refine croftref5_paint.call ?_
  unfold croftref5_paint.vc
  intro L1 hL1
  have h8 := pow8 ho
  have key : ∀ (d i : Nat) (hx : Heap), i + d = 2 ^ order → Stp h hx (slR p n c 11 (pgsV G)) (slR p n c 11 (pgsV (paintT G page order kind i))) →
      L1 [.slice p n c, .int .i64 (page : Int), .int .i64 (order : Int), .int .i64 kind, .int .i64 (i : Int)] hx := by
    intro d
    induction d with
    | zero =>
      intro i hx hi S
      have hi : i = 2 ^ order := by omega
      subst hi
      refine hL1 _ _ _ _ _ _ _ _ ⟨by rw [IntKind.wrap_u64]; omega, fun J2 hJ2 => ?_⟩
      rw [shlI ho]
      exact qF' (decide_eq_false (by omega)) (hJ2 _ _ (iF rfl (hK hx S)))
    | succ d ih =>
      intro i hx hi S
      have ew : IntKind.wrap .i64 ((page : Int) + (i : Int)) = ((page + i : Nat) : Int) := by rw [IntKind.wrap_i64]; omega
      refine hL1 _ _ _ _ _ _ _ _ ⟨by rw [IntKind.wrap_u64]; omega, fun J2 hJ2 => ?_⟩
      rw [shlI ho, ew]
      refine qT (decide_eq_true (by omega)) (hJ2 _ _ ?_)
      by_cases hlt : page + i < n
      case neg =>
        refine iF (decide_eq_false (by omega)) (hK hx (S.conv (fun P => sl_congr P fun x hx => ?_) fun _ e => e))
        unfold pgsV paintT
        have : x / 11 < n := by omega
        by_cases hq : page ≤ x / 11
        · rw [if_pos ⟨hq, by omega⟩, if_pos ⟨hq, by omega⟩]
        · rw [if_neg fun e => hq e.1, if_neg fun e => hq e.1]
      refine iT (decide_eq_true (by omega)) fun J3 hJ3 => ?_
      obtain ⟨b, e, w, S1⟩ := sl_sets S.p ((page + i) * 11) [.int .i64 kind, .int .i64 (order : Int), .int .i64 0, .int .i64 0, .int .i64 (-1), .int .i64 (-1), .int .i64 (-1), .int .u64 0, .int .u64 0, .int .u64 0, .int .u64 0] (by simp; omega) (by simp)
      subst e
      have ea : (⟨b, 0, none⟩ : Addr).add (Int.toNat ((page + i : Nat) : Int) * 11) = ⟨b, (page + i) * 11, none⟩ := by rw [add_mk, Int.toNat_natCast, Nat.zero_add]
      rw [ew]
      refine ⟨_, rfl, by omega, by omega, ?_⟩
      rw [ea]
      refine ⟨w, ?_⟩
      have tail : ∀ hy, Stp hx hy (slR (some ⟨b, 0, none⟩) n c 11 (pgsV (paintT G page order kind i))) (slR (some ⟨b, 0, none⟩) n c 11 (pgsV (paintT G page order kind (i + 1)))) → J3 [.slice (some ⟨b, 0, none⟩) n c, .int .i64 (page : Int), .int .i64 (order : Int), .int .i64 kind, .int .i64 (i : Int)] hy := fun hy S2 => by
        refine hJ3 _ _ _ _ _ _ _ _ ?_
        rw [show IntKind.wrap .i64 ((i : Int) + 1) = ((i + 1 : Nat) : Int) by rw [IntKind.wrap_i64]; omega]
        exact ih (i + 1) hy (by omega) (S.trans S2)
      have ne : ∀ q, q ≠ page + i → paintT G page order kind (i + 1) q = paintT G page order kind i q := fun q hq => by
        unfold paintT
        funext j
        by_cases h1 : page ≤ q ∧ q < page + i
        · rw [if_pos h1, if_pos ⟨h1.1, by omega⟩]
        · rw [if_neg h1, if_neg fun e => h1 ⟨e.1, by omega⟩]
      have at' : ∀ j, paintT G page order kind (i + 1) (page + i) j = paintP kind order i j := fun j => by
        unfold paintT
        rw [if_pos ⟨by omega, by omega⟩, show page + i - page = i by omega]
      by_cases hi0 : i = 0
      · subst hi0
        refine iF (decide_eq_false (by omega)) (tail _ (S1.conv (fun P => sl_congr P fun x hx => pgsV_set (n := n) rfl (fun j hj => ?_) ne x) fun _ e => e))
        rw [at']
        have : j = 0 ∨ j = 1 ∨ j = 2 ∨ j = 3 ∨ j = 4 ∨ j = 5 ∨ j = 6 ∨ j = 7 ∨ j = 8 ∨ j = 9 ∨ j = 10 := by omega
        rcases this with rfl | rfl | rfl | rfl | rfl | rfl | rfl | rfl | rfl | rfl | rfl <;> rfl
      · obtain ⟨b', e', w', S2⟩ := sl_set S1.p (o := (page + i) * 11) (by omega) (.int .i64 (kind + 1))
        cases e'
        refine iT (decide_eq_true (by omega)) ⟨_, rfl, by omega, by omega, ?_⟩
        rw [ea]
        refine ⟨w', ?_⟩
        rw [show IntKind.wrap .i64 (kind + 1) = kind + 1 by rw [IntKind.wrap_i64]; omega]
        refine tail _ ((S1.trans S2).conv (fun P => sl_congr P fun x hx => ?_) fun _ e => e)
        have hset := pgsV_set (G := paintT G page order kind i) (G' := paintT G page order kind (i + 1)) (r := page + i) (n := n) (vs := [.int .i64 (kind + 1), .int .i64 (order : Int), .int .i64 0, .int .i64 0, .int .i64 (-1), .int .i64 (-1), .int .i64 (-1), .int .u64 0, .int .u64 0, .int .u64 0, .int .u64 0]) rfl (fun j hj => by
          rw [at']
          have : j = 0 ∨ j = 1 ∨ j = 2 ∨ j = 3 ∨ j = 4 ∨ j = 5 ∨ j = 6 ∨ j = 7 ∨ j = 8 ∨ j = 9 ∨ j = 10 := by omega
          rcases this with rfl | rfl | rfl | rfl | rfl | rfl | rfl | rfl | rfl | rfl | rfl
          · show _ = pcl 0 (paintP kind order i 0)
            unfold paintP
            rw [if_neg hi0]; rfl
          all_goals rfl) ne x
        rw [← hset]
        by_cases hx0 : x = (page + i) * 11
        · rw [if_pos hx0, if_pos ⟨by omega, by simp; omega⟩, hx0, Nat.sub_self]; rfl
        · rw [if_neg hx0]
          show (if (page + i) * 11 ≤ x ∧ x < (page + i) * 11 + 11 then _ else _) = (if (page + i) * 11 ≤ x ∧ x < (page + i) * 11 + 11 then _ else _)
          by_cases h1 : (page + i) * 11 ≤ x ∧ x < (page + i) * 11 + 11
          · rw [if_pos h1, if_pos h1]
            obtain ⟨z, hz⟩ : ∃ z, x - (page + i) * 11 = z + 1 := ⟨x - (page + i) * 11 - 1, by omega⟩
            rw [hz]; rfl
          · rw [if_neg h1, if_neg h1]
  have e0 : paintT G page order kind 0 = G := by
    unfold paintT
    funext q j
    rw [if_neg (by omega)]
  exact key (2 ^ order) 0 h (by omega) (by rw [e0]; exact Stp.quiet H (Upd.refl _ _))
end
end Go.Proofs.YtnlcmfdmbgnpfaaGreat
