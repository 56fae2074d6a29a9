/- Chapter 2's own answer: what its functions do. No condition. -/
import Derived.Test.YtfijahblggnbbaaW6
import Derived.Test.YtfijahblggnbbaaX0
set_option linter.unusedSimpArgs false
set_option linter.unusedVariables false
namespace Go.Proofs.Ytfijahblggnbbaa
open Go.V Classical

/-- The document's own space of n regions, its bytes M in a block among Y. -/
structure Rs (h : Heap) (c : Cfg) (n : Nat) (M : Nat → Int) (mp : Option Addr) (mc : Nat) (Y : Nat → Prop) : Prop where
  good : c.Good
  nl : (n : Int) ≤ c.limit
  row : n * c.size = 0 ∨ ∃ (b N : Nat) (g : Nat → Value), mp = some ⟨b, 0, none⟩ ∧ Blk h b N g ∧ Y b ∧ n * c.size ≤ N ∧ ∀ j, j < n * c.size → g j = .int .u8 (M j)
  mc : n * c.size ≤ mc
  lt : ∀ b, Y b → b < h.size
  by8 : ∀ o, o < n * c.size → 0 ≤ M o ∧ M o < 256

/-- Its value. -/
abbrev rsv (c : Cfg) (n : Nat) (mp : Option Addr) (mc : Nat) : Value := .agg #[.int .u64 c.base, .int .u64 (c.size : Int), .int .i64 c.limit, .slice mp (n * c.size) mc]

abbrev HP (h : Heap) (c : Cfg) (n : Nat) (mp : Option Addr) (mc : Nat) : Heap := Array.push h (.cells #[.int .u64 c.base, .int .u64 (c.size : Int), .int .i64 c.limit, .slice mp (n * c.size) mc] T.T_croftref2_Space)

section
variable {w₀ : World} {h : Heap} {n mc : Nat} {c : Cfg} {M : Nat → Int} {mp : Option Addr} {Y : Nat → Prop} {K : Value → Heap → Prop}

theorem Rs.upd {h' : Heap} {S : Nat → Prop} (H : Rs h c n M mp mc Y) (hu : Upd S h h') (hs : ∀ b, Y b → ¬ S b) : Rs h' c n M mp mc Y := by
  refine { H with row := ?_, lt := fun b hb => Nat.lt_of_lt_of_le (H.lt b hb) hu.1 }
  rcases H.row with e | ⟨b, N, g, e1, e2, e3, e4⟩
  · exact .inl e
  · exact .inr ⟨b, N, g, e1, e2.upd hu (hs _ e3), e3, e4⟩

theorem Rs.congr {M' : Nat → Int} (H : Rs h c n M mp mc Y) (hm : ∀ o, o < n * c.size → M o = M' o) : Rs h c n M' mp mc Y := by
  refine { H with row := ?_, by8 := fun o ho => by rw [← hm o ho]; exact H.by8 o ho }
  rcases H.row with e | ⟨b, N, g, e1, e2, e3, e4, e5⟩
  · exact .inl e
  · exact .inr ⟨b, N, g, e1, e2, e3, e4, fun j hj => by rw [e5 j hj, hm j hj]⟩

/-- One byte is there: it may be read and written. -/
theorem Rs.at {off : Nat} (H : Rs h c n M mp mc Y) (ho : off < n * c.size) : ∃ b, mp = some ⟨b, 0, none⟩ ∧ Y b ∧ cellAt h ⟨b, off, none⟩ = some (.int .u8 (M off)) ∧ Wr h ⟨b, off, none⟩ ∧
    ∀ v : Int, 0 ≤ v → v < 256 → Rs (setC h ⟨b, off, none⟩ (.int .u8 v)) c n (fun o => if o = off then v else M o) mp mc Y := by
  rcases H.row with e | ⟨b, N, g, e1, e2, e3, e4, e5⟩
  · omega
  refine ⟨b, e1, e3, by rw [e2.cell (by omega), e5 off ho], e2.wr (by omega), fun v v0 v1 => ?_⟩
  refine { H with row := .inr ⟨b, N, _, e1, e2.set off _, e3, e4, fun j hj => ?_⟩, lt := fun b hb => by rw [setC_size]; exact H.lt b hb, by8 := fun o ho => ?_ }
  · split
    · rfl
    · exact e5 j hj
  · split
    · exact ⟨v0, v1⟩
    · exact H.by8 o ho

theorem Rs.len (H : Rs h c n M mp mc Y) : n * c.size ≤ 4194304 ∧ c.base + (n * c.size : Nat) ≤ 9223372036854775808 := H.good.len H.nl

theorem HP_upd : Upd NoB h (HP h c n mp mc) := push_upd _ _ _
theorem HP_0 : cellAt (HP h c n mp mc) ⟨h.size, 0, none⟩ = some (.int .u64 c.base) := by simp [HP, cellAt_new]
theorem HP_1 : cellAt (HP h c n mp mc) ⟨h.size, 1, none⟩ = some (.int .u64 (c.size : Int)) := by simp [HP, cellAt_new]
theorem HP_2 : cellAt (HP h c n mp mc) ⟨h.size, 2, none⟩ = some (.int .i64 c.limit) := by simp [HP, cellAt_new]
theorem HP_3 : cellAt (HP h c n mp mc) ⟨h.size, 3, none⟩ = some (.slice mp (n * c.size) mc) := by simp [HP, cellAt_new]

/-- Where a parameter's block stands still. -/
theorem HP_cells {h' : Heap} {S : Nat → Prop} (hu : Upd S (HP h c n mp mc) h') (hs : ¬ S h.size) :
    cellAt h' ⟨h.size, 0, none⟩ = some (.int .u64 c.base) ∧ cellAt h' ⟨h.size, 1, none⟩ = some (.int .u64 (c.size : Int)) ∧ cellAt h' ⟨h.size, 2, none⟩ = some (.int .i64 c.limit) ∧ cellAt h' ⟨h.size, 3, none⟩ = some (.slice mp (n * c.size) mc) :=
  ⟨cellAt_upd HP_0 hu hs, cellAt_upd HP_1 hu hs, cellAt_upd HP_2 hu hs, cellAt_upd HP_3 hu hs⟩

theorem ref2_Regions_ok (H : Rs h c n M mp mc Y) (hK : ∀ h', Upd NoB h h' → K (.int .i64 (n : Int)) h') : CallV Try.prog w₀ F.croftref2_Regions [rsv c n mp mc] h K := by
  refine croftref2_Regions.call ?_
  have hl := H.len
  have hs := H.good.size_pos
  have hn := H.nl
  have hl64 := H.good.l64
  have e : IntKind.wrap .i64 (IntKind.wrap .u64 (Int.tdiv (IntKind.wrap .u64 ((n * c.size : Nat) : Int)) (c.size : Int))) = n := by
    rw [IntKind.wrap_u64 ((n * c.size : Nat) : Int), Int.emod_eq_of_lt (by omega) (by omega), Int.tdiv_eq_ediv_of_nonneg (by omega), ← Int.natCast_ediv, Nat.mul_div_cancel _ (by omega), IntKind.wrap_u64, IntKind.wrap_i64]
    omega
  refine ⟨_, _, _, HP_3, _, HP_1, by omega, ?_⟩
  rw [e]
  exact hK _ HP_upd

theorem ref2_End_ok (H : Rs h c n M mp mc Y) (hK : ∀ h', Upd NoB h h' → K (.int .u64 (c.base + (n * c.size : Nat))) h') : CallV Try.prog w₀ F.croftref2_End [rsv c n mp mc] h K := by
  refine croftref2_End.call ?_
  have hl := H.len
  have hb := H.good.b0
  have e : IntKind.wrap .u64 (c.base + (IntKind.wrap .u64 ((n * c.size : Nat) : Int))) = c.base + (n * c.size : Nat) := by
    rw [IntKind.wrap_u64 ((n * c.size : Nat) : Int), Int.emod_eq_of_lt (by omega) (by omega), IntKind.wrap_u64]
    omega
  refine ⟨_, HP_0, _, _, _, HP_3, ?_⟩
  rw [e]
  exact hK _ HP_upd

theorem ref2_There_ok {p q : Int} (hp : 0 ≤ p ∧ p < 18446744073709551616) (hq : 0 ≤ q ∧ q < 18446744073709551616) (H : Rs h c n M mp mc Y)
    (hK : ∀ h', Upd NoB h h' → K (.bool (decide (There c n p q))) h') : CallV Try.prog w₀ F.croftref2_There [rsv c n mp mc, .int .u64 p, .int .u64 q] h K := by
  refine croftref2_There.call ?_
  have hl := H.len
  have hb := H.good.b0
  have hK := hK _ (HP_upd (c := c) (n := n) (mp := mp) (mc := mc))
  have key : ∀ b : Bool, (b = true ↔ There c n p q) → K (.bool b) (HP h c n mp mc) := fun b hb => by
    have : decide (There c n p q) = b := by rw [Bool.eq_iff_iff, decide_eq_true_eq, hb]
    rw [← this]; exact hK
  have e1 : IntKind.wrap .u64 ((n * c.size : Nat) : Int) = (n * c.size : Nat) := by rw [IntKind.wrap_u64]; omega
  refine ⟨fun e => key true ?_, fun e => ?_⟩
  · simp at e
    exact ⟨fun _ => .inl e, fun _ => rfl⟩
  simp at e
  refine ⟨_, HP_0, ?_⟩
  intro J k
  refine ⟨fun e2 => ⟨_, _, _, HP_3, k _ _ ⟨fun e3 => ?_, fun e3 => ?_⟩⟩, fun e2 => k _ _ (iT rfl ?_)⟩
  · rw [e1] at e3
    simp at e2 e3
    refine key false ⟨fun e => (by cases e), fun t => ?_⟩
    rcases t with t | t <;> omega
  · rw [e1] at e3
    simp at e2 e3
    refine ⟨_, HP_0, _, _, _, HP_3, ?_⟩
    rw [e1]
    have e4 : IntKind.wrap .u64 (p - c.base) = p - c.base := by rw [IntKind.wrap_u64]; omega
    have e5 : IntKind.wrap .u64 (((n * c.size : Nat) : Int) - q) = ((n * c.size : Nat) : Int) - q := by rw [IntKind.wrap_u64]; omega
    rw [e4, e5]
    refine key _ ?_
    rw [decide_eq_true_eq]
    show _ ↔ (q = 0 ∨ (c.base ≤ p ∧ p - c.base + q ≤ (n * c.size : Nat)))
    omega
  · simp at e2
    refine key false ⟨fun e => (by cases e), fun t => ?_⟩
    rcases t with t | t <;> omega

theorem ref2_Byte_ok {off : Nat} (H : Rs h c n M mp mc Y) (ho : off < n * c.size) (hK : ∀ h', Upd NoB h h' → K (.int .u8 (M off)) h') : CallV Try.prog w₀ F.croftref2_Byte [rsv c n mp mc, .int .u64 (c.base + (off : Int))] h K := by
  refine croftref2_Byte.call ?_
  have hl := H.len
  have hb := H.good.b0
  have e1 : IntKind.wrap .u64 (c.base + (off : Int) - c.base) = off := by rw [IntKind.wrap_u64]; omega
  have t1 : Int.toNat (off : Int) = off := by omega
  obtain ⟨b, rfl, _, hc, _⟩ := (H.upd (HP_upd (c := c) (n := n) (mp := mp) (mc := mc)) fun _ _ => id).at ho
  refine ⟨_, _, _, HP_3, _, HP_0, ?_⟩
  rw [e1, t1]
  refine ⟨_, rfl, by omega, by omega, _, by rw [add_mk, Nat.zero_add, Nat.mul_one]; exact hc, hK _ HP_upd⟩

theorem ref2_Word_ok {off : Nat} (ho : off + 8 ≤ n * c.size) (H : Rs h c n M mp mc Y) (hK : ∀ h', Upd NoB h h' → K (.int .u64 (wrd (fun i => M (off + i)) 8)) h') :
    CallV Try.prog w₀ F.croftref2_Word [rsv c n mp mc, .int .u64 (c.base + (off : Int))] h K := by
  refine croftref2_Word.call ?_
  have hl := H.len
  have hb := H.good.b0
  intro J k L hL
  have loop : ∀ (i : Nat) (hx : Heap), i ≤ 8 → Upd NoB (HP h c n mp mc) hx →
      L [.int .u64 (c.base + (off : Int)), .pointer (some ⟨h.size, 0, none⟩), .int .u64 (wrd (fun j => M (off + (i + j))) (8 - i)), .int .u64 (i : Int)] hx := by
    intro i
    induction i with
    | zero =>
      intro hx _ ux
      refine hL _ _ _ _ _ (iF (by decide) (k _ _ ?_))
      have := hK hx (HP_upd.nx ux fun _ e _ => e)
      simpa using this
    | succ i ih =>
      intro hx hi ux
      obtain ⟨k0, k1, k2, k3⟩ := HP_cells ux id
      have e1 : IntKind.wrap .u64 ((IntKind.wrap .u64 (c.base + (off : Int) + ((i + 1 : Nat) : Int))) - 1) = c.base + ((off + i : Nat) : Int) := by
        rw [IntKind.wrap_u64 (c.base + (off : Int) + _), Int.emod_eq_of_lt (by omega) (by omega), IntKind.wrap_u64]; omega
      have e3 : IntKind.wrap .u64 (((i + 1 : Nat) : Int) - 1) = (i : Int) := by rw [IntKind.wrap_u64]; omega
      refine hL _ _ _ _ _ (iT (by simp) ⟨_, k0, _, by rw [add_mk]; exact k1, _, by rw [add_mk]; exact k2, _, _, _, by rw [add_mk]; exact k3, ?_⟩)
      rw [e1, e3]
      have Rx := (H.upd HP_upd fun _ _ => id).upd ux fun _ _ => id
      refine ref2_Byte_ok Rx (by omega) fun h2 u2 => ⟨_, rfl, ?_⟩
      have hB := H.by8 (off + i) (by omega)
      have hW := wrd_lt (f := fun j => M (off + (i + 1 + j))) (k := 8 - (i + 1)) fun j hj => H.by8 _ (by omega)
      have hp : (256 : Int) ^ (8 - (i + 1)) ≤ 256 ^ 7 := by
        have : i = 0 ∨ i = 1 ∨ i = 2 ∨ i = 3 ∨ i = 4 ∨ i = 5 ∨ i = 6 ∨ i = 7 := by omega
        rcases this with rfl | rfl | rfl | rfl | rfl | rfl | rfl | rfl <;> decide
      have p7 : (256 : Int) ^ 7 = 72057594037927936 := rfl
      have e5 : IntKind.wrap .u64 ((IntKind.wrap .u64 (wrd (fun j => M (off + (i + 1 + j))) (8 - (i + 1)) * (256 : Int))) + (IntKind.wrap .u64 (M (off + i)))) = wrd (fun j => M (off + (i + j))) (8 - i) := by
        have e6 : 8 - i = (8 - (i + 1)) + 1 := by omega
        rw [e6, wrd]
        have e7 : wrd (fun j => M (off + (i + (j + 1)))) (8 - (i + 1)) = wrd (fun j => M (off + (i + 1 + j))) (8 - (i + 1)) := wrd_congr fun j _ => by congr 1; omega
        rw [e7]
        generalize wrd (fun j => M (off + (i + 1 + j))) (8 - (i + 1)) = W at *
        rw [IntKind.wrap_u64 (M (off + i)), IntKind.wrap_u64 (W * 256), IntKind.wrap_u64]
        simp only [Nat.add_zero]
        omega
      rw [e5]
      exact ih h2 (by omega) (ux.nx u2 fun _ e _ => e)
  have := loop 8 _ (Nat.le_refl _) (Upd.refl _ _)
  exact this

theorem ref2_SetWord_ok {off : Nat} {v : Int} (hv : 0 ≤ v ∧ v < 18446744073709551616) (ho : off + 8 ≤ n * c.size) (H : Rs h c n M mp mc Y)
    (hK : ∀ h', Upd Y h h' → Rs h' c n (fun o => if off ≤ o ∧ o < off + 8 then byteOf v (o - off) else M o) mp mc Y → K (.tuple #[]) h') :
    CallV Try.prog w₀ F.croftref2_SetWord [rsv c n mp mc, .int .u64 (c.base + (off : Int)), .int .u64 v] h K := by
  refine croftref2_SetWord.call ?_
  have hl := H.len
  have hb := H.good.b0
  have hY : ¬ Y h.size := fun hh => absurd (H.lt _ hh) (Nat.lt_irrefl _)
  intro L hL
  have loop : ∀ (r i : Nat) (x : Int) (hx : Heap) (M' : Nat → Int), i + r = 8 → 0 ≤ x → x < 18446744073709551616 → (∀ j, byteOf x j = byteOf v (i + j)) → Upd Y (HP h c n mp mc) hx → Rs hx c n M' mp mc Y → (∀ o, o < n * c.size → M' o = if off ≤ o ∧ o < off + i then byteOf v (o - off) else M o) →
      L [.int .u64 (c.base + (off : Int)), .int .u64 x, .pointer (some ⟨h.size, 0, none⟩), .int .u64 (i : Int)] hx := by
    intro r
    induction r with
    | zero =>
      intro i x hx M' hi x0 x1 hxv ux Rx hm
      have : i = 8 := by omega
      subst this
      refine hL _ _ _ _ _ (iF (by decide) (hK hx ?_ (Rx.congr hm)))
      exact Upd.trans (HP_upd (c := c) (n := n) (mp := mp) (mc := mc)) ux (fun b e => e.elim) (fun b e _ => e)
    | succ r ih =>
      intro i x hx M' hi x0 x1 hxv ux Rx hm
      obtain ⟨k0, k1, k2, k3⟩ := HP_cells ux hY
      obtain ⟨b, rfl, hYb, hc, hw, hs⟩ := Rx.at (off := off + i) (by omega)
      have e1 : IntKind.wrap .u64 ((IntKind.wrap .u64 (c.base + (off : Int) + (i : Int))) - c.base) = ((off + i : Nat) : Int) := by
        rw [IntKind.wrap_u64 (c.base + (off : Int) + i), Int.emod_eq_of_lt (by omega) (by omega), IntKind.wrap_u64]; omega
      have e3 : IntKind.wrap .u64 ((i : Int) + 1) = ((i + 1 : Nat) : Int) := by rw [IntKind.wrap_u64]; omega
      have t1 : Int.toNat ((off + i : Nat) : Int) = off + i := by omega
      have e4 : IntKind.wrap .u64 (Int.tdiv x 256) = x / 256 := by rw [Int.tdiv_eq_ediv_of_nonneg x0, IntKind.wrap_u64]; omega
      have e5 : IntKind.wrap .u8 (Int.tmod x 256) = byteOf v i := by
        have := hxv 0
        unfold byteOf at this
        simp at this
        rw [Int.tmod_eq_emod_of_nonneg x0, IntKind.wrap_u8]
        unfold byteOf
        omega
      refine hL _ _ _ _ _ (iT (by simp; omega) ⟨_, _, _, by rw [add_mk]; exact k3, _, k0, by decide, _, rfl, ?_⟩)
      rw [e1, e3, e4, e5, t1, add_mk, Nat.zero_add, Nat.mul_one]
      have hB := byteOf_lt v i
      refine ⟨by omega, by omega, hw, by decide, ih (i + 1) _ _ _ (by omega) (by omega) (by omega) (fun j => ?_) (Upd.trans ux (setC_upd _ _ _) (fun b e => e) (fun b' e _ => by rw [show b' = b from e]; exact hYb)) (hs _ hB.1 hB.2) fun o ho => ?_⟩
      · rw [← byteOf_succ, hxv]
        congr 1; omega
      · by_cases c1 : o = off + i
        · rw [if_pos c1, if_pos (by omega)]
          congr 1; omega
        · rw [if_neg c1, hm o ho]
          by_cases c2 : off ≤ o ∧ o < off + i
          · rw [if_pos c2, if_pos (by omega)]
          · rw [if_neg c2, if_neg (by omega)]
  exact loop 8 0 v _ M rfl hv.1 hv.2 (fun j => by rw [Nat.zero_add]) (Upd.refl _ _) (H.upd HP_upd fun _ _ => id) fun o ho => by rw [if_neg (by omega)]

end
end Go.Proofs.Ytfijahblggnbbaa
