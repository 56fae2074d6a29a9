/- mem: what a space is in the heap, and what its functions do. No condition. -/
import Derived.Test.YtfijahblggnbbaaW1
import Derived.Test.YtfijahblggnbbaaG0
import Derived.Test.YtfijahblggnbbaaG1
import Derived.Test.YtfijahblggnbbaaG2
import Derived.Test.YtfijahblggnbbaaG3
set_option linter.unusedSimpArgs false
set_option linter.unusedVariables false
namespace Go.Proofs.Ytfijahblggnbbaa
open Go.V Classical

/-- A Config's numbers. -/
structure Cfg where
  base : Int
  limit : Int
  order : Int

def Cfg.size (c : Cfg) : Nat := 4096 * 2 ^ c.order.toNat

/-- It may be. -/
structure Cfg.Good (c : Cfg) : Prop where
  o0 : 0 ≤ c.order
  o8 : c.order ≤ 8
  l1 : 1 ≤ c.limit
  l64 : c.limit ≤ 64
  pg : c.limit * ((2 ^ c.order.toNat : Nat) : Int) ≤ 1024
  b0 : 0 < c.base
  al : c.base % (c.size : Int) = 0
  top : c.base + c.size * c.limit ≤ 9223372036854775808

theorem Cfg.Good.size_pos {c : Cfg} (H : c.Good) : 4096 ≤ c.size := by
  unfold Cfg.size
  have : 1 ≤ 2 ^ c.order.toNat := Nat.one_le_two_pow
  omega

theorem Cfg.Good.total {c : Cfg} (H : c.Good) : (c.size : Int) * c.limit ≤ 4194304 := by
  have := H.pg
  have e : (c.size : Int) * c.limit = 4096 * (c.limit * ((2 ^ c.order.toNat : Nat) : Int)) := by
    unfold Cfg.size
    generalize (2 ^ c.order.toNat : Nat) = x
    rw [Int.natCast_mul, Int.mul_assoc, Int.mul_comm c.limit]
    rfl
  rw [e]
  omega

theorem Cfg.Good.size_le {c : Cfg} (H : c.Good) : c.size ≤ 4194304 := by
  have h1 := H.total
  have h2 := H.l1
  have h3 : (c.size : Int) * 1 ≤ (c.size : Int) * c.limit := Int.mul_le_mul_of_nonneg_left h2 (by omega)
  omega

theorem Cfg.Good.len {c : Cfg} (H : c.Good) {n : Nat} (hn : (n : Int) ≤ c.limit) : (n * c.size : Nat) ≤ (4194304 : Nat) ∧ c.base + (n * c.size : Nat) ≤ 9223372036854775808 := by
  have h1 := H.total
  have h3 : (c.size : Int) * (n : Int) ≤ (c.size : Int) * c.limit := Int.mul_le_mul_of_nonneg_left hn (by omega)
  have h4 := H.top
  have e : ((n * c.size : Nat) : Int) = (c.size : Int) * (n : Int) := by rw [Int.natCast_mul, Int.mul_comm]
  omega

/-- Where the parts are: the row of regions, its room, its block, the regions' blocks. -/
structure SpW where
  pp : Option Addr
  pc : Nat
  pb : Nat
  rb : Nat → Nat
  pf : Nat → Value

def spf (c : Cfg) (n : Nat) (w : SpW) : Nat → Value
  | 0 => .int .u64 c.base
  | 1 => .int .i64 c.limit
  | 2 => .int .i64 c.order
  | 3 => .int .u64 c.size
  | _ => .slice w.pp n w.pc

structure SpX (h : Heap) (s : Nat) (c : Cfg) (n : Nat) (M : Nat → Int) (Z : Nat → Prop) (w : SpW) : Prop where
  good : c.Good
  st : Blk h s 5 (spf c n w)
  ps : (w.pc = 0 ∧ w.pp = none ∧ n = 0) ∨ (w.pp = some ⟨w.pb, 0, none⟩ ∧ Blk h w.pb w.pc w.pf ∧ Z w.pb ∧ w.pb ≠ s ∧ n ≤ w.pc)
  pf : ∀ i, i < n → w.pf i = .slice (some ⟨w.rb i, 0, none⟩) c.size c.size
  rs : ∀ i, i < n → Blk h (w.rb i) c.size (fun j => .int .u8 (M (i * c.size + j)))
  rF : ∀ i, i < n → Z (w.rb i) ∧ w.rb i ≠ s ∧ w.rb i ≠ w.pb
  inj : ∀ i, i < n → ∀ j, j < n → w.rb i = w.rb j → i = j
  sF : Z s
  lt : ∀ b, Z b → b < h.size
  nl : (n : Int) ≤ c.limit
  by8 : ∀ o, o < n * c.size → 0 ≤ M o ∧ M o < 256

/-- A space of n regions at block s, its bytes M, its blocks among F. -/
def Sp (h : Heap) (s : Nat) (c : Cfg) (n : Nat) (M : Nat → Int) (Z : Nat → Prop) : Prop := ∃ w, SpX h s c n M Z w

theorem Sp.upd {h h' : Heap} {s n : Nat} {c : Cfg} {M : Nat → Int} {Z S : Nat → Prop} (H : Sp h s c n M Z) (hu : Upd S h h') (hs : ∀ b, Z b → ¬ S b) : Sp h' s c n M Z := by
  obtain ⟨w, H⟩ := H
  refine ⟨w, { H with st := H.st.upd hu (hs _ H.sF), ps := ?_, rs := fun i hi => (H.rs i hi).upd hu (hs _ (H.rF i hi).1), lt := fun b hb => Nat.lt_of_lt_of_le (H.lt b hb) hu.1 }⟩
  rcases H.ps with e | ⟨e1, e2, e3, e4⟩
  · exact .inl e
  · exact .inr ⟨e1, e2.upd hu (hs _ e3), e3, e4⟩

theorem Sp.congr {h : Heap} {s n : Nat} {c : Cfg} {M M' : Nat → Int} {Z : Nat → Prop} (H : Sp h s c n M Z) (hm : ∀ o, o < n * c.size → M o = M' o) : Sp h s c n M' Z := by
  obtain ⟨w, H⟩ := H
  have lt : ∀ i j, i < n → j < c.size → i * c.size + j < n * c.size := fun i j hi hj => by
    have : (i + 1) * c.size ≤ n * c.size := Nat.mul_le_mul_right _ hi
    rw [Nat.succ_mul] at this
    omega
  exact ⟨w, { H with rs := fun i hi => (H.rs i hi).congr fun j hj => by rw [hm _ (lt i j hi hj)], by8 := fun o ho => by rw [← hm o ho]; exact H.by8 o ho }⟩

theorem Sp.fp {h : Heap} {s n : Nat} {c : Cfg} {M : Nat → Int} {Z : Nat → Prop} (H : Sp h s c n M Z) {Z' : Nat → Prop} (hf : ∀ b, Z b → Z' b) (hl : ∀ b, Z' b → b < h.size) : Sp h s c n M Z' := by
  obtain ⟨w, H⟩ := H
  refine ⟨w, { H with ps := ?_, rF := fun i hi => ⟨hf _ (H.rF i hi).1, (H.rF i hi).2⟩, sF := hf _ H.sF, lt := hl }⟩
  rcases H.ps with e | ⟨e1, e2, e3, e4⟩
  · exact .inl e
  · exact .inr ⟨e1, e2, hf _ e3, e4⟩

section
variable {w₀ : World} {h : Heap} {s n : Nat} {c : Cfg} {M : Nat → Int} {Z : Nat → Prop} {K : Value → Heap → Prop}

theorem Sp.base (H : Sp h s c n M Z) : cellAt h ⟨s, 0, none⟩ = some (.int .u64 c.base) := let ⟨_, H⟩ := H; H.st.cell (i := 0) (by omega)
theorem Sp.limit (H : Sp h s c n M Z) : cellAt h ⟨s, 1, none⟩ = some (.int .i64 c.limit) := let ⟨_, H⟩ := H; H.st.cell (i := 1) (by omega)
theorem Sp.size (H : Sp h s c n M Z) : cellAt h ⟨s, 3, none⟩ = some (.int .u64 c.size) := let ⟨_, H⟩ := H; H.st.cell (i := 3) (by omega)
theorem Sp.good (H : Sp h s c n M Z) : c.Good := let ⟨_, H⟩ := H; H.good
theorem Sp.nl (H : Sp h s c n M Z) : (n : Int) ≤ c.limit := let ⟨_, H⟩ := H; H.nl
theorem Sp.by8 (H : Sp h s c n M Z) : ∀ o, o < n * c.size → 0 ≤ M o ∧ M o < 256 := let ⟨_, H⟩ := H; H.by8
theorem Sp.sF (H : Sp h s c n M Z) : Z s := let ⟨_, H⟩ := H; H.sF
theorem Sp.lt (H : Sp h s c n M Z) : ∀ b, Z b → b < h.size := let ⟨_, H⟩ := H; H.lt

theorem Sp.end_eq (H : Sp h s c n M Z) : IntKind.u64.wrap (c.base + IntKind.u64.wrap ((c.size : Int) * IntKind.u64.wrap ((n : Nat) : Int))) = c.base + (n * c.size : Nat) := by
  have hl := H.good.len H.nl
  have h0 := H.good.b0
  have h1 := H.good.l64
  have h2 := H.nl
  have e : (c.size : Int) * (n : Int) = (n * c.size : Nat) := by rw [Int.natCast_mul, Int.mul_comm]
  rw [IntKind.wrap_u64 (n : Int), Int.emod_eq_of_lt (by omega) (by omega), e, IntKind.wrap_u64 ((n * c.size : Nat) : Int), Int.emod_eq_of_lt (by omega) (by omega), IntKind.wrap_u64, Int.emod_eq_of_lt (by omega) (by omega)]

theorem mem_End_ok (H : Sp h s c n M Z) (hK : K (.int .u64 (c.base + (n * c.size : Nat))) h) : CallV Try.prog w₀ F.mem_Space_End [.pointer (some ⟨s, 0, none⟩)] h K := by
  refine mem_Space_End.call ?_
  have h1 := H.base
  have h3 := H.size
  have he := H.end_eq
  obtain ⟨w, H⟩ := H
  have h4 : cellAt h ⟨s, 4, none⟩ = some (.slice w.pp n w.pc) := H.st.cell (i := 4) (by omega)
  unfold mem_Space_End.vc
  refine ⟨_, rfl, _, h1, _, rfl, _, by rw [add_mk]; exact h3, _, rfl, _, _, _, by rw [add_mk]; exact h4, ?_⟩
  rw [he]
  exact hK

theorem good_iff {a b d : Int} : Cfg.Good ⟨a, b, d⟩ ↔ 0 ≤ d ∧ d ≤ 8 ∧ 1 ≤ b ∧ b ≤ 64 ∧ b * ((2 ^ d.toNat : Nat) : Int) ≤ 1024 ∧ 0 < a ∧ a % ((4096 * 2 ^ d.toNat : Nat) : Int) = 0 ∧ a + ((4096 * 2 ^ d.toNat : Nat) : Int) * b ≤ 9223372036854775808 :=
  ⟨fun H => ⟨H.o0, H.o8, H.l1, H.l64, H.pg, H.b0, H.al, H.top⟩, fun ⟨h1, h2, h3, h4, h5, h6, h7, h8⟩ => ⟨h1, h2, h3, h4, h5, h6, h7, h8⟩⟩

theorem mem_may_ok {a b d : Int} (ha : 0 ≤ a ∧ a < 18446744073709551616) (hK : ∀ h', Upd (fun _ => False) h h' → K (.bool (decide (Cfg.Good ⟨a, b, d⟩))) h') :
    CallV Try.prog w₀ F.mem_may [.agg #[.int .u64 a, .int .i64 b, .int .i64 d]] h K := by
  refine mem_may.call ?_
  unfold mem_may.vc
  have hK := hK (Array.push h (.cells #[(.int .u64 a), (.int .i64 b), (.int .i64 d)] T.T_api_Config)) (push_upd _ _ _)
  simp only [jor, jand, cellAt_new, add_mk, List.getElem?_toArray, Nat.zero_add, List.getElem?_cons_zero, List.getElem?_cons_succ, Option.some.injEq, Value.int.injEq, Value.bool.injEq, Value.pointer.injEq, Value.slice.injEq, true_and, and_true, exists_eq_left', exists_eq', and_assoc, exists_and_left]
  intro J k
  refine ⟨fun e => ⟨by simp at e; omega, k _ _ ?_⟩, fun e => k _ _ ⟨fun _ => ?_, fun e' => by cases e'⟩⟩
  · simp at e
    simp only [jor, jand, cellAt_new, add_mk, List.getElem?_toArray, Nat.zero_add, List.getElem?_cons_zero, List.getElem?_cons_succ, Option.some.injEq, Value.int.injEq, Value.bool.injEq, Value.pointer.injEq, Value.slice.injEq, true_and, and_true, exists_eq_left', exists_eq', and_assoc, exists_and_left]
    have hd : d = 0 ∨ d = 1 ∨ d = 2 ∨ d = 3 ∨ d = 4 ∨ d = 5 ∨ d = 6 ∨ d = 7 ∨ d = 8 := by omega
    have fin : ∀ (x : Nat), 1 ≤ x → x ≤ 256 → 2 ^ d.toNat = x → True := fun _ _ _ _ => trivial
    have pw : (2 : Int) ^ min d.toNat 64 = ((2 ^ d.toNat : Nat) : Int) := by rw [Nat.min_eq_left (by omega)]; simp
    have hx : ∃ x : Nat, 2 ^ d.toNat = x ∧ 1 ≤ x ∧ x ≤ 256 ∧ 0 ≤ b * (x : Int) ∧ b * (x : Int) ≤ 16384 := by
      rcases hd with rfl | rfl | rfl | rfl | rfl | rfl | rfl | rfl | rfl <;> exact ⟨_, rfl, by decide, by decide, by simp; omega, by simp; omega⟩
    obtain ⟨x, hx, hx1, hx2, hx3, hx4⟩ := hx
    rw [hx] at pw
    have e1 : IntKind.i64.wrap (b * 2 ^ min d.toNat IntKind.i64.bits) = b * x := by
      show IntKind.i64.wrap (b * 2 ^ min d.toNat 64) = _
      rw [pw, IntKind.wrap_i64]; omega
    have e2 : IntKind.u64.wrap (4096 * 2 ^ min d.toNat IntKind.u64.bits) = 4096 * x := by
      show IntKind.u64.wrap (4096 * 2 ^ min d.toNat 64) = _
      rw [pw, IntKind.wrap_u64]; omega
    have e3 : IntKind.u64.wrap (4096 * x * IntKind.u64.wrap b) = 4096 * (b * x) := by
      rw [IntKind.wrap_u64 b, Int.emod_eq_of_lt (by omega) (by omega), Int.mul_assoc, Int.mul_comm (x : Int), IntKind.wrap_u64]; omega
    have e4 : a ≤ 9223372036854775808 → IntKind.u64.wrap (9223372036854775808 - a) = 9223372036854775808 - a := by
      intro h; rw [IntKind.wrap_u64]; omega
    rw [e1, e2, Int.tmod_eq_emod_of_nonneg ha.1]
    have g : Cfg.Good ⟨a, b, d⟩ ↔ b * (x : Int) ≤ 1024 ∧ 0 < a ∧ a % (4096 * (x : Int)) = 0 ∧ a + 4096 * (b * x) ≤ 9223372036854775808 := by
      rw [good_iff, hx]
      have : ((4096 * x : Nat) : Int) = 4096 * (x : Int) := by omega
      rw [this, Int.mul_assoc, Int.mul_comm (x : Int)]
      omega
    refine ⟨fun e5 => ?_, fun e5 => ?_⟩
    · simp at e5
      have : decide (Cfg.Good ⟨a, b, d⟩) = false := by rw [decide_eq_false_iff_not, g]; omega
      rw [this] at hK
      exact hK
    · simp at e5
      refine ⟨by omega, ?_⟩
      intro J6 k6
      refine ⟨fun e6 => ⟨by omega, k6 _ _ ?_⟩, fun e6 => k6 _ _ ?_⟩
      · have : decide (Cfg.Good ⟨a, b, d⟩) = ((a % (4096 * (x : Int)) == 0) && (decide (a ≤ 9223372036854775808) && decide (4096 * (b * (x : Int)) ≤ IntKind.u64.wrap (9223372036854775808 - a)))) := by
          rw [Bool.eq_iff_iff]
          simp only [decide_eq_true_eq, Bool.and_eq_true, g, beq_iff_eq]
          simp at e6
          constructor
          · rintro ⟨h1, h2, h3, h4⟩; exact ⟨h3, by omega, by rw [e4 (by omega)]; omega⟩
          · rintro ⟨h1, h2, h3⟩; rw [e4 h2] at h3; exact ⟨by omega, by omega, h1, by omega⟩
        rw [this] at hK
        simpa only [jor, jand, cellAt_new, add_mk, List.getElem?_toArray, Nat.zero_add, List.getElem?_cons_zero, List.getElem?_cons_succ, Option.some.injEq, Value.int.injEq, Value.bool.injEq, Value.pointer.injEq, Value.slice.injEq, true_and, and_true, exists_eq_left', exists_eq', and_assoc, exists_and_left, e3, Bool.and_assoc, Bool.false_and] using hK
      · have : decide (Cfg.Good ⟨a, b, d⟩) = false := by rw [decide_eq_false_iff_not, g]; simp at e6; omega
        rw [this] at hK
        simpa only [jor, jand, cellAt_new, add_mk, List.getElem?_toArray, Nat.zero_add, List.getElem?_cons_zero, List.getElem?_cons_succ, Option.some.injEq, Value.int.injEq, Value.bool.injEq, Value.pointer.injEq, Value.slice.injEq, true_and, and_true, exists_eq_left', exists_eq', and_assoc, exists_and_left, e3, Bool.and_assoc, Bool.false_and] using hK
  · have : decide (Cfg.Good ⟨a, b, d⟩) = false := by rw [decide_eq_false_iff_not, good_iff]; simp at e; omega
    rw [this] at hK
    exact hK

end
end Go.Proofs.Ytfijahblggnbbaa
