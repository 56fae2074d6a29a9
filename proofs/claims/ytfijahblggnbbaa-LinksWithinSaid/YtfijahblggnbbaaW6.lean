/- mem: Fill, Copy, words. No condition. -/
import Derived.Test.YtfijahblggnbbaaW5
set_option linter.unusedSimpArgs false
set_option linter.unusedVariables false
namespace Go.Proofs.Ytfijahblggnbbaa
open Go.V Classical

/-- A little endian number of k bytes. -/
def wrd (f : Nat → Int) : Nat → Int
  | 0 => 0
  | k + 1 => f 0 + 256 * wrd (fun i => f (i + 1)) k

def byteOf (v : Int) (i : Nat) : Int := v / 256 ^ i % 256

theorem wrd_congr {f g : Nat → Int} : ∀ {k : Nat}, (∀ i, i < k → f i = g i) → wrd f k = wrd g k
  | 0, _ => rfl
  | k + 1, h => by rw [wrd, wrd, h 0 (by omega), wrd_congr fun i hi => h (i + 1) (by omega)]

theorem wrd_last (f : Nat → Int) : ∀ k : Nat, wrd f (k + 1) = wrd f k + 256 ^ k * f k
  | 0 => by simp [wrd]
  | k + 1 => by
    rw [wrd, wrd_last (fun i => f (i + 1)) k, wrd]
    rw [Int.mul_add, Int.pow_succ, ← Int.mul_assoc, Int.mul_comm 256 (256 ^ k)]
    omega

theorem wrd_lt {f : Nat → Int} : ∀ {k : Nat}, (∀ i, i < k → 0 ≤ f i ∧ f i < 256) → 0 ≤ wrd f k ∧ wrd f k < 256 ^ k
  | 0, _ => by simp [wrd]
  | k + 1, h => by
    have h0 := h 0 (by omega)
    have ih := wrd_lt (f := fun i => f (i + 1)) (k := k) fun i hi => h (i + 1) (by omega)
    rw [wrd, Int.pow_succ]
    omega

theorem byteOf_lt (v : Int) (i : Nat) : 0 ≤ byteOf v i ∧ byteOf v i < 256 := by unfold byteOf; omega

theorem byteOf_succ (v : Int) (i : Nat) : byteOf v (i + 1) = byteOf (v / 256) i := by
  unfold byteOf
  rw [Int.pow_succ, Int.mul_comm, ← Int.ediv_ediv_of_nonneg (by decide)]

theorem wrd_byteOf : ∀ (k : Nat) (v : Int), wrd (byteOf v) k = v % 256 ^ k
  | 0, v => by simp [wrd]
  | k + 1, v => by
    rw [wrd, wrd_congr (g := byteOf (v / 256)) fun i _ => byteOf_succ v i, wrd_byteOf k]
    have : byteOf v 0 = v % 256 := by unfold byteOf; simp
    rw [this, Int.pow_succ]
    have hp : (0 : Int) < 256 ^ k := Int.pow_pos (by decide)
    generalize (256 : Int) ^ k = x at *
    have e1 := Int.emod_add_mul_ediv (v / 256) x
    have e2 := Int.emod_add_mul_ediv v (x * 256)
    have e3 : v / (x * 256) = v / 256 / x := by rw [Int.mul_comm, ← Int.ediv_ediv_of_nonneg (by decide)]
    rw [e3] at e2
    have e4 : x * 256 * (v / 256 / x) = 256 * (x * (v / 256 / x)) := by rw [Int.mul_comm x, Int.mul_assoc]
    rw [e4] at e2
    omega

theorem byteOf_wrd {f : Nat → Int} : ∀ {k i : Nat}, (∀ i, i < k → 0 ≤ f i ∧ f i < 256) → i < k → byteOf (wrd f k) i = f i
  | 0, i, _, hi => by omega
  | k + 1, 0, h, _ => by
    have := h 0 (by omega)
    unfold byteOf
    rw [wrd]
    simp
    omega
  | k + 1, i + 1, h, hi => by
    rw [byteOf_succ, wrd]
    have h0 := h 0 (by omega)
    have : (f 0 + 256 * wrd (fun i => f (i + 1)) k) / 256 = wrd (fun i => f (i + 1)) k := by omega
    rw [this]
    exact byteOf_wrd (f := fun i => f (i + 1)) (fun i hi => h (i + 1) (by omega)) (by omega)

theorem or_step {v b : Int} {i : Nat} (hi : i < 8) (hv : 0 ≤ v ∧ v < 256 ^ i) (hb : 0 ≤ b ∧ b < 256) :
    IntKind.u64.wrap (((BitVec.ofInt (IntKind.bits .u64) v ||| BitVec.ofInt (IntKind.bits .u64) (IntKind.wrap .u64 ((IntKind.wrap .u64 b) * 2 ^ min (Int.toNat (IntKind.wrap .i64 ((8 : Int) * (i : Int)))) (IntKind.bits .u64)))).toNat : Int)) = v + 256 ^ i * b := by
  have hb' : IntKind.u64.wrap b = b := by rw [IntKind.wrap_u64]; omega
  have hs : min (Int.toNat (IntKind.wrap .i64 ((8 : Int) * (i : Int)))) (IntKind.bits .u64) = 8 * i := by
    have : IntKind.wrap .i64 ((8 : Int) * (i : Int)) = ((8 * i : Nat) : Int) := by rw [IntKind.wrap_i64]; omega
    rw [this]
    show min _ 64 = _
    omega
  rw [hb', hs]
  obtain ⟨x, rfl⟩ : ∃ x : Nat, v = x := ⟨v.toNat, by omega⟩
  obtain ⟨y, rfl⟩ : ∃ y : Nat, b = y := ⟨b.toNat, by omega⟩
  have p1 : (256 : Int) ^ i = ((2 ^ (8 * i) : Nat) : Int) := by rw [Nat.pow_mul]; simp
  have p2 : (2 : Int) ^ (8 * i) = ((2 ^ (8 * i) : Nat) : Int) := by simp
  rw [p1] at hv
  rw [p1, p2]
  have hP : 2 ^ (8 * i) * 256 ≤ 2 ^ 64 := by
    rw [show 256 = 2 ^ 8 by rfl, ← Nat.pow_add]
    exact Nat.pow_le_pow_right (by decide) (by omega)
  have hP1 : 1 ≤ 2 ^ (8 * i) := Nat.one_le_two_pow
  generalize hq : 2 ^ (8 * i) = q at *
  have hyq : y * q + q ≤ 256 * q := by
    have : (y + 1) * q ≤ 256 * q := Nat.mul_le_mul_right _ (by omega)
    rw [Nat.succ_mul] at this
    exact this
  have e1 : IntKind.u64.wrap ((y : Int) * (q : Int)) = ((y * q : Nat) : Int) := by
    rw [IntKind.wrap_u64, ← Int.natCast_mul]
    omega
  rw [e1]
  have e2 : (BitVec.ofInt (IntKind.bits .u64) (x : Int) ||| BitVec.ofInt (IntKind.bits .u64) ((y * q : Nat) : Int)).toNat = x + q * y := by
    rw [BitVec.ofInt_natCast, BitVec.ofInt_natCast, BitVec.toNat_or, BitVec.toNat_ofNat, BitVec.toNat_ofNat]
    have b1 : x % 2 ^ IntKind.bits .u64 = x := Nat.mod_eq_of_lt (by show x < 2 ^ 64; omega)
    have b2 : y * q % 2 ^ IntKind.bits .u64 = y * q := Nat.mod_eq_of_lt (by show y * q < 2 ^ 64; omega)
    rw [b1, b2, Nat.or_comm, Nat.mul_comm y q, Nat.add_comm, ← hq]
    exact (Nat.two_pow_add_eq_or_of_lt (by omega) y).symm
  rw [e2, IntKind.wrap_u64, ← Int.natCast_mul, ← Int.natCast_add]
  have : q * y = y * q := Nat.mul_comm _ _
  omega

theorem shr_step {v : Int} {i : Nat} (hi : i < 8) (hv : 0 ≤ v ∧ v < 18446744073709551616) :
    IntKind.wrap .u8 (Int.fdiv v (2 ^ min (Int.toNat (IntKind.wrap .i64 ((8 : Int) * (i : Int)))) (IntKind.bits .u64))) = byteOf v i := by
  have hs : min (Int.toNat (IntKind.wrap .i64 ((8 : Int) * (i : Int)))) (IntKind.bits .u64) = 8 * i := by
    have : IntKind.wrap .i64 ((8 : Int) * (i : Int)) = ((8 * i : Nat) : Int) := by rw [IntKind.wrap_i64]; omega
    rw [this]
    show min _ 64 = _
    omega
  have p1 : (2 : Int) ^ (8 * i) = 256 ^ i := by rw [Int.pow_mul]; rfl
  rw [hs, p1, IntKind.wrap_u8]
  unfold byteOf
  rw [Int.fdiv_eq_ediv_of_nonneg _ (Int.le_of_lt (Int.pow_pos (by decide)))]

section
variable {w₀ : World} {h : Heap} {s n : Nat} {c : Cfg} {M : Nat → Int} {Z : Nat → Prop} {K : Value → Heap → Prop}

theorem mem_Word_ok {p : Int} (hp : 0 ≤ p ∧ p < 18446744073709551616) (H : Sp h s c n M Z)
    (hy : There c n p 8 → ∀ h' : Heap, Upd NoB h h' → K (.tuple #[.int .u64 (wrd (fun i => M ((p - c.base).toNat + i)) 8), .int .i64 0]) h')
    (hn : ¬ There c n p 8 → ∀ h' : Heap, Upd NoB h h' → K (.tuple #[.int .u64 0, .int .i64 4]) h') :
    CallV Try.prog w₀ F.mem_Space_Word [.pointer (some ⟨s, 0, none⟩), .int .u64 p] h K := by
  refine mem_Space_Word.call catches_Word ?_
  unfold mem_Space_Word.vc
  have H1 : Sp (h.push (.cells #[.int .i64 0] T.T_api_Errno)) s c n M Z := H.upd (push_upd NoB _ _) fun _ _ => id
  refine mem_look_ok hp (by decide) H1 (fun t => ⟨rfl, ?_⟩) (fun t => caught_look (h' := h) fun h2 u2 c2 => ⟨4, c2, hn t h2 u2⟩)
  have hl := H.good.len H.nl
  refine ⟨by decide, by decide, by decide, ?_⟩
  have hs : ¬ Z h.size := fun hz => absurd (H.lt _ hz) (Nat.lt_irrefl _)
  let h1 : Heap := h.push (.cells #[.int .i64 0] T.T_api_Errno)
  have s1 : h1.size = h.size + 1 := by simp [h1]
  have hs1 : ¬ Z h1.size := fun hz => absurd (H.lt _ hz) (by omega)
  let z8 : Array Value := #[(.int .u8 (0 : Int)), (.int .u8 (0 : Int)), (.int .u8 (0 : Int)), (.int .u8 (0 : Int)), (.int .u8 (0 : Int)), (.int .u8 (0 : Int)), (.int .u8 (0 : Int)), (.int .u8 (0 : Int))]
  let h2 : Heap := h1.push (.cells z8 T.T_arr8_uint8)
  have u12 : Upd NoB h1 h2 := push_upd _ _ _
  have H2 : Sp h2 s c n M Z := H1.upd u12 fun _ _ => id
  have b2 : Blk h2 h1.size 8 (fun j => z8.getD j undef) := Blk.new h1 z8 T.T_arr8_uint8
  obtain ⟨off, rfl, eo, ho⟩ := there_off t (by omega) (by omega)
  rw [eo] at hy
  have e8 : Int.toNat 8 = 8 := rfl
  rw [e8] at ho
  refine (mem_get_ok (off := off) (bb := h1.size) (o := 0) (m := 8) (cap := 8) (N := 8) H2 b2 hs1 (by omega) (by omega) (.inr ⟨rfl, ho⟩) (.inr rfl) fun h' u' s' b' => ⟨rfl, ?_⟩).toE
  have uh : Upd (fun x => x = h1.size) h1 h' := Upd.trans u12 u' (fun b e => e.elim) (fun b e _ => e)
  obtain ⟨e1, e2⟩ := end_cell (h := h) (T₁ := T.T_api_Errno) uh (by omega)
  have hb8 : ∀ i, i < 8 → 0 ≤ M (off + i) ∧ M (off + i) < 256 := fun i hi => H.by8 _ (by omega)
  have hc8 : ∀ i, i < 8 → cellAt h' ⟨h1.size, i, none⟩ = some (.int .u8 (M (off + i))) := fun i hi => by
    rw [b'.cell hi, if_pos (by omega)]; rfl
  have hK : K (.tuple #[.int .u64 (wrd (fun i => M (off + i)) 8), .int .i64 0]) (setC h' ⟨h.size, 0, none⟩ (.int .i64 0)) := by
    refine hy t _ ?_
    exact Upd.trans (push_upd NoB h _) (Upd.trans uh (setC_upd _ _ _) (S'' := fun b => h.size ≤ b) (fun b e => by omega) (fun b e _ => Nat.le_of_eq e.symm)) (fun b e => e) (fun b e hb => absurd e (by omega))
  intro J k L hL
  have loop : ∀ r i : Nat, i + r = 8 → L [.int .u64 (wrd (fun i => M (off + i)) i), .pointer (some ⟨h.size, 0, none⟩), .pointer (some ⟨h1.size, 0, none⟩), .int .i64 (i : Int)] h' := by
    intro r
    induction r with
    | zero =>
      intro i hi
      have : i = 8 := by omega
      subst this
      refine hL _ _ _ _ _ ⟨fun e => absurd e (by decide), fun _ => k _ _ _ ⟨e1, 0, e2, hK⟩⟩
    | succ r ih =>
      intro i hi
      refine hL _ _ _ _ _ ⟨fun _ => ⟨by omega, by omega, M (off + i), ?_, ?_, ?_⟩, fun e => ?_⟩
      · have t1 : Int.toNat (i : Int) = i := by omega
        rw [t1, add_mk, Nat.zero_add, Nat.mul_one]
        exact hc8 i (by omega)
      · have : IntKind.wrap .i64 ((8 : Int) * (i : Int)) = ((8 * i : Nat) : Int) := by rw [IntKind.wrap_i64]; omega
        omega
      · have hl := wrd_lt (f := fun i => M (off + i)) (k := i) fun j hj => hb8 j (by omega)
        rw [or_step (by omega) hl (hb8 i (by omega))]
        have e3 : IntKind.wrap .i64 ((i : Int) + 1) = ((i + 1 : Nat) : Int) := by rw [IntKind.wrap_i64]; omega
        rw [e3]
        have := ih (i + 1) (by omega)
        rw [wrd_last] at this
        exact this
      · simp at e
        omega
  exact loop 8 0 rfl

theorem mem_SetWord_ok {p v : Int} (hp : 0 ≤ p ∧ p < 18446744073709551616) (hv : 0 ≤ v ∧ v < 18446744073709551616) (H : Sp h s c n M Z)
    (hy : There c n p 8 → ∀ h' : Heap, Upd Z h h' → Sp h' s c n (fun o => if (p - c.base).toNat ≤ o ∧ o < (p - c.base).toNat + 8 then byteOf v (o - (p - c.base).toNat) else M o) Z → K (.int .i64 0) h')
    (hn : ¬ There c n p 8 → ∀ h' : Heap, Upd NoB h h' → K (.int .i64 4) h') :
    CallV Try.prog w₀ F.mem_Space_SetWord [.pointer (some ⟨s, 0, none⟩), .int .u64 p, .int .u64 v] h K := by
  refine mem_Space_SetWord.call catches_SetWord ?_
  unfold mem_Space_SetWord.vc
  have H1 : Sp (h.push (.cells #[.int .i64 0] T.T_api_Errno)) s c n M Z := H.upd (push_upd NoB _ _) fun _ _ => id
  refine mem_look_ok hp (by decide) H1 (fun t => ⟨rfl, ?_⟩) (fun t => caught_look (h' := h) fun h2 u2 c2 => ⟨4, c2, hn t h2 u2⟩)
  have hl := H.good.len H.nl
  have hs : ¬ Z h.size := fun hz => absurd (H.lt _ hz) (Nat.lt_irrefl _)
  let h1 : Heap := h.push (.cells #[.int .i64 0] T.T_api_Errno)
  have s1 : h1.size = h.size + 1 := by simp [h1]
  have hs1 : ¬ Z h1.size := fun hz => absurd (H.lt _ hz) (by omega)
  let z8 : Array Value := #[(.int .u8 (0 : Int)), (.int .u8 (0 : Int)), (.int .u8 (0 : Int)), (.int .u8 (0 : Int)), (.int .u8 (0 : Int)), (.int .u8 (0 : Int)), (.int .u8 (0 : Int)), (.int .u8 (0 : Int))]
  let h2 : Heap := h1.push (.cells z8 T.T_arr8_uint8)
  have u12 : Upd NoB h1 h2 := push_upd _ _ _
  obtain ⟨off, rfl, eo, ho⟩ := there_off t (by omega) (by omega)
  rw [eo] at hy
  have e8 : Int.toNat 8 = 8 := rfl
  rw [e8] at ho
  intro J k L hL
  have hJ : ∀ hx : Heap, Upd (fun x => x = h1.size) h2 hx → Blk hx h1.size 8 (fun j => .int .u8 (byteOf v j)) →
      J [.pointer (some ⟨s, 0, none⟩), .int .u64 (c.base + (off : Int)), .pointer (some ⟨h.size, 0, none⟩), .pointer (some ⟨h1.size, 0, none⟩)] hx := by
    intro hx ux bx
    refine k _ _ _ _ _ ⟨by decide, by decide, by decide, ?_⟩
    have uh : Upd (fun x => x = h1.size) h1 hx := Upd.trans u12 ux (fun b e => e.elim) (fun b e _ => e)
    have Hx : Sp hx s c n M Z := H1.upd uh fun b hb e => hs1 (e ▸ hb)
    have rx : Row hx (some ⟨h1.size, 0, none⟩) 8 (fun j => .int .u8 (byteOf v j)) := (bx.row 0 8 (by omega)).congr fun i hi => by rw [Nat.zero_add]
    refine (mem_put_ok (off := off) (m := 8) (cap := 8) Hx rx (fun x hx => byteOf_lt v x) (.inr fun a ha => by cases ha; exact hs1) (by omega) (.inr ⟨rfl, ho⟩) fun h' u' s' S' => ⟨rfl, ?_⟩).toE
    have uu : Upd (fun b => Z b ∨ b = h1.size) h1 h' := Upd.trans uh u' (fun b e => .inr e) (fun b e _ => .inl e)
    obtain ⟨e1, e2⟩ := end_cell (h := h) (T₁ := T.T_api_Errno) uu (by rintro (e | e); exact hs e; omega)
    refine ⟨e1, 0, e2, hy t _ ?_ ?_⟩
    · exact Upd.trans (push_upd NoB h _) (Upd.trans uu (setC_upd _ _ _) (S'' := fun b => Z b ∨ h.size ≤ b) (fun b e => e.imp id fun e => by omega) (fun b e _ => .inr (Nat.le_of_eq e.symm))) (fun b e => e.elim) (fun b e hb => e.elim id fun e => absurd e (by omega))
    · exact S'.upd (setC_upd _ _ _) fun b hb e => hs (by have e : b = h.size := e; rw [← e]; exact hb)
  have loop : ∀ r i : Nat, i + r = 8 → ∀ hx : Heap, Upd (fun x => x = h1.size) h2 hx → (∃ f, Blk hx h1.size 8 f ∧ ∀ j, j < i → f j = .int .u8 (byteOf v j)) →
      L [.pointer (some ⟨s, 0, none⟩), .int .u64 (c.base + (off : Int)), .int .u64 v, .pointer (some ⟨h.size, 0, none⟩), .pointer (some ⟨h1.size, 0, none⟩), .int .i64 (i : Int)] hx := by
    intro r
    induction r with
    | zero =>
      intro i hi hx ux bx
      have : i = 8 := by omega
      subst this
      obtain ⟨f, bx, hf⟩ := bx
      exact hL _ _ _ _ _ _ _ ⟨fun e => absurd e (by decide), fun _ => hJ hx ux (bx.congr hf)⟩
    | succ r ih =>
      intro i hi hx ux bx
      obtain ⟨f, bx, hf⟩ := bx
      refine hL _ _ _ _ _ _ _ ⟨fun _ => ⟨?_, by omega, by omega, ?_, ?_⟩, fun e => ?_⟩
      · have : IntKind.wrap .i64 ((8 : Int) * (i : Int)) = ((8 * i : Nat) : Int) := by rw [IntKind.wrap_i64]; omega
        omega
      · have t1 : Int.toNat (i : Int) = i := by omega
        rw [t1, add_mk, Nat.zero_add, Nat.mul_one]
        exact bx.wr (by omega)
      · rw [shr_step (by omega) hv]
        have t1 : Int.toNat (i : Int) = i := by omega
        have e3 : IntKind.wrap .i64 ((i : Int) + 1) = ((i + 1 : Nat) : Int) := by rw [IntKind.wrap_i64]; omega
        rw [e3, t1, add_mk, Nat.zero_add, Nat.mul_one]
        refine ih (i + 1) (by omega) _ (Upd.trans ux (setC_upd _ _ _) (fun b e => e) (fun b e _ => e)) ⟨_, bx.set i _, fun j hj => ?_⟩
        by_cases hji : j = i
        · subst hji; rw [if_pos rfl]
        · rw [if_neg hji]; exact hf j (by omega)
      · simp at e
        omega
  exact loop 8 0 rfl h2 (Upd.refl _ _) ⟨_, Blk.new h1 z8 T.T_arr8_uint8, fun j hj => absurd hj (by omega)⟩

end
end Go.Proofs.Ytfijahblggnbbaa
