/- Chapter 2's laws on bytes. No condition. -/
import Derived.Test.YtpninapdjcggoaaW8
import Derived.Test.YtpninapdjcggoaaX0
set_option linter.unusedSimpArgs false
set_option linter.unusedVariables false
namespace Go.Proofs.Ytpninapdjcggoaa
open Go.V Classical

section
variable {w₀ : World} {h : Heap} {s n : Nat} {c : Cfg} {M : Nat → Int} {Z : Nat → Prop} {K : Value → Heap → Prop}

theorem Same_true {p q : Option Addr} {n cp cq : Nat} {f g : Nat → Int} (hn : n < 9223372036854775808) (hp : Row h p n (fun i => .int .u8 (f i))) (hq : Row h q n (fun i => .int .u8 (g i))) (he : ∀ i, i < n → f i = g i)
    (hK : K (.bool true) h) : CallV Try.prog w₀ F.croftref2_Same [.slice p n cp, .slice q n cq] h K := by
  refine croftref2_Same.call ?_
  unfold croftref2_Same.vc
  refine iF (by simp) ?_
  intro J k L hL
  have loop : ∀ r i : Nat, i + r = n → L [.slice p n cp, .slice q n cq, .int .i64 (i : Int)] h := by
    intro r
    induction r with
    | zero =>
      intro i hi
      have : i = n := by omega
      subst this
      exact hL _ _ _ _ _ _ _ _ (iF (by simp) (k _ hK))
    | succ r ih =>
      intro i hi
      have e3 : IntKind.wrap .i64 ((i : Int) + 1) = ((i + 1 : Nat) : Int) := by rw [IntKind.wrap_i64]; omega
      have t1 : Int.toNat (i : Int) = i := by omega
      rcases hp with hp | ⟨pb, po, rfl, hp⟩
      · omega
      rcases hq with hq | ⟨qb, qo, rfl, hq⟩
      · omega
      refine hL _ _ _ _ _ _ _ _ (iT (by simp; omega) ?_)
      rw [e3, t1]
      refine ⟨_, rfl, by omega, by omega, f i, by rw [add_mk, Nat.mul_one]; exact hp i (by omega), _, rfl, by omega, by omega, g i, by rw [add_mk, Nat.mul_one]; exact hq i (by omega), ?_⟩
      refine iF (by rw [he i (by omega)]; simp) (ih (i + 1) (by omega))
  exact loop n 0 (by omega)

theorem MemCopies_law {w : World} {p : Option Addr} {n cp : Nat} {x y : Int} (hs : SRow w.heap .u8 p n cp) (hx : (Lit.int .u64 x).wf = true) (hy : (Lit.int .u64 y).wf = true) :
    CallV Try.prog w F.croftlaw2_MemCopies [.slice p n cp, .int .u64 x, .int .u64 y] w.heap fun v h' => v = .bool true ∧ Upd NoB w.heap h' := by
  have hx := u64_wf hx
  have hy := u64_wf hy
  obtain ⟨f, hnc, hc, hr, hf⟩ := SRow.u8 hs
  refine croftlaw2_MemCopies.call ?_
  unfold croftlaw2_MemCopies.vc
  refine grown_ok (k := 2) (by omega) fun h1 s Z u1 hz S1 => ⟨_, rfl, iF rfl ?_⟩
  intro J k
  have nz : ∀ {h1 h2 : Heap}, Upd NoB w.heap h1 → Upd Z h1 h2 → Upd NoB w.heap h2 := fun u u' => u.nx u' fun b e hb => absurd (hz b e) (by omega)
  have th : ∀ (x k : Nat), x + k ≤ 8192 → There G3 2 (1048576 + (x : Int)) (k : Int) := fun x k hx => .inr ⟨by show (1048576 : Int) ≤ _; omega, by show (1048576 : Int) + x - 1048576 + k ≤ ((2 * 4096 : Nat) : Int); omega⟩
  have tn : ∀ x : Nat, ((1048576 + (x : Int)) - G3.base).toNat = x := fun x => by show ((1048576 + (x : Int)) - 1048576).toNat = x; omega
  have main : ∀ (q : Option Addr) (m cq : Nat), m ≤ 4000 → m ≤ cq → m ≤ cp → Row w.heap q m (fun i => .int .u8 (f i)) → J [.slice q m cq, .int .u64 x, .int .u64 y, .pointer (some ⟨s, 0, none⟩)] h1 := by
    intro q m cq hm hmc hmp hrow
    apply k
    have e0 : IntKind.wrap .u64 ((m : Nat) : Int) = m := by rw [IntKind.wrap_u64]; omega
    have e1 : IntKind.wrap .u64 ((IntKind.wrap .u64 ((8192 : Int) - m)) + (1 : Int)) = ((8193 - m : Nat) : Int) := by rw [IntKind.wrap_u64 (8192 - m), IntKind.wrap_u64]; omega
    rw [e0, e1, Int.tmod_eq_emod_of_nonneg hx.1, Int.tmod_eq_emod_of_nonneg hy.1]
    have off : ∀ z : Int, 0 ≤ z → ∃ o : Nat, IntKind.wrap .u64 ((1048576 : Int) + z % ((8193 - m : Nat) : Int)) = 1048576 + (o : Int) ∧ o + m ≤ 8192 := by
      intro z hz
      have h1 : 0 ≤ z % ((8193 - m : Nat) : Int) := Int.emod_nonneg _ (by omega)
      have h2 : z % ((8193 - m : Nat) : Int) < ((8193 - m : Nat) : Int) := Int.emod_lt_of_pos _ (by omega)
      generalize z % ((8193 - m : Nat) : Int) = r at *
      rw [IntKind.wrap_u64]
      exact ⟨r.toNat, by omega, by omega⟩
    obtain ⟨ox, ex, lx⟩ := off x hx.1
    obtain ⟨oy, ey, ly⟩ := off y hy.1
    rw [ex, ey]
    refine ⟨by omega, by omega, ?_⟩
    have row1 := hrow.upd u1 fun _ _ => id
    refine mem_Write_ok (by omega) (by omega) hmc S1 row1 (fun i hi => hf i (by omega)) (hrow.off hz) (fun _ h2 u2 S2 => ⟨_, rfl, ?_⟩) (fun t => absurd (th oy m ly) t)
    intro J4 k4
    refine pF rfl ?_
    refine mem_Copy_ok (by omega) (by omega) (by omega) S2 (fun _ _ h3 u3 S3 => ⟨_, rfl, k4 _ _ (iF rfl ?_)⟩) (fun t => absurd ⟨th ox m lx, th oy m ly⟩ t)
    have tm : Int.toNat (m : Int) = m := by omega
    rw [tn, tn, tm] at S3
    refine mem_Read_ok (by omega) (by omega) S3 (fun _ h4 bb u4 hb4 B4 => ⟨_, _, _, _, rfl, ?_⟩) (fun t => absurd (th ox m lx) t)
    rw [tn, tm] at B4
    rw [tm]
    intro J6 k6
    have u04 : Upd NoB w.heap h4 := nz (nz (nz u1 u2) u3) (u4.mono fun _ e _ => e.elim)
    have row4 : Row h4 q m (fun i => .int .u8 (f i)) := hrow.upd u04 fun _ _ => id
    refine qT rfl ?_
    refine Same_true (by omega) ((B4.row 0 m (by omega)).congr fun i hi => by rw [Nat.zero_add]) row4 (fun i hi => ?_) ⟨_, rfl, k6 _ _ ⟨rfl, u04⟩⟩
    rw [if_pos (by omega), show ox + i - ox = i by omega, if_pos (by omega)]
    congr 1
    omega
  refine ⟨fun e => ?_, fun e => ?_⟩
  · simp at e
    refine ⟨by decide, by decide, by omega, ?_⟩
    refine main _ 4000 (cp - 0) (by omega) (by omega) (by omega) (slice_front (Row.take hr (by omega)))
  · simp at e
    exact main p n cp (by omega) hnc hnc (Row.take hr hnc)

theorem MemBegins_law {w : World} {p : Option Addr} {n cp : Nat} {x : Int} (hs : SRow w.heap .u8 p n cp) (hx : (Lit.int .u64 x).wf = true) :
    CallV Try.prog w F.croftlaw2_MemBegins [.slice p n cp, .int .u64 x] w.heap fun v h' => v = .bool true ∧ Upd NoB w.heap h' := by
  have hx := u64_wf hx
  obtain ⟨f, hnc, hc, hr, hf⟩ := SRow.u8 hs
  refine croftlaw2_MemBegins.call ?_
  unfold croftlaw2_MemBegins.vc
  refine grown_ok (k := 2) (by omega) fun h1 s Z u1 hz S1 => ⟨_, rfl, iF rfl ?_⟩
  intro J k
  have nz : ∀ {Z' : Nat → Prop} {h1 h2 : Heap}, (∀ b, Z' b → w.heap.size ≤ b) → Upd NoB w.heap h1 → Upd Z' h1 h2 → Upd NoB w.heap h2 := fun hz' u u' => u.nx u' fun b e hb => absurd (hz' b e) (by omega)
  have main : ∀ (q : Option Addr) (m cq : Nat), m ≤ 4096 → m ≤ cq → m ≤ cp → Row w.heap q m (fun i => .int .u8 (f i)) → J [.slice q m cq, .int .u64 x, .pointer (some ⟨s, 0, none⟩)] h1 := by
    intro q m cq hm hmc hmp hrow
    apply k
    have e0 : IntKind.wrap .u64 ((m : Nat) : Int) = m := by rw [IntKind.wrap_u64]; omega
    have e1 : IntKind.wrap .u64 ((4097 : Int) - m) = ((4097 - m : Nat) : Int) := by rw [IntKind.wrap_u64]; omega
    rw [e0, e1, Int.tmod_eq_emod_of_nonneg hx.1]
    obtain ⟨o, eo, lo⟩ : ∃ o : Nat, IntKind.wrap .u64 ((1052672 : Int) + x % ((4097 - m : Nat) : Int)) = 1048576 + ((4096 + o : Nat) : Int) ∧ 4096 + o + m ≤ 8192 := by
      have h1 : 0 ≤ x % ((4097 - m : Nat) : Int) := Int.emod_nonneg _ (by omega)
      have h2 : x % ((4097 - m : Nat) : Int) < ((4097 - m : Nat) : Int) := Int.emod_lt_of_pos _ (by omega)
      generalize x % ((4097 - m : Nat) : Int) = r at *
      rw [IntKind.wrap_u64]
      exact ⟨r.toNat, by omega, by omega⟩
    rw [eo]
    refine ⟨by omega, ?_⟩
    have row1 := hrow.upd u1 fun _ _ => id
    refine mem_Write_ok (by omega) (by omega) hmc S1 row1 (fun i hi => hf i (by omega)) (Row.off hrow hz) (fun _ h2 u2 S2 => ⟨_, rfl, ?_⟩) (fun t => absurd (Or.inr ⟨by show (1048576 : Int) ≤ _; omega, by show (1048576 : Int) + (4096 + o : Nat) - 1048576 + m ≤ ((2 * 4096 : Nat) : Int); omega⟩) t)
    intro J4 k4
    refine pF rfl ?_
    refine mem_Decommit_ok (by decide) S2 (fun e => absurd e (by decide)) fun k2 hk2 _ h3 u3 _ S3 => ⟨_, rfl, k4 _ _ ?_⟩
    have hk2 : k2 = 1 := by omega
    subst hk2
    intro J5 k5
    refine pF rfl ?_
    refine mem_Fill_ok (by decide) (by decide) (by decide) S3 (fun t => absurd t (by
      rintro (e | ⟨_, e⟩)
      · cases e
      · exact absurd e (by decide))) (fun _ h4 u4 => ⟨_, rfl, k5 _ _ (iF rfl ?_)⟩)
    have S4 := S3.upd u4 fun _ _ => id
    refine mem_Commit_ok S4 (fun e => ?_) fun _ _ h5 u5 S5 => ⟨_, _, rfl, ?_⟩
    · rcases e with e | e
      · cases e
      · exact absurd e (by decide)
    refine mem_Read_ok (by decide) (by decide) S5 (fun _ h6 bb u6 hb6 B6 => ⟨_, _, _, _, rfl, ?_⟩) (fun t => absurd (Or.inr ⟨by decide, by decide⟩) t)
    have u04 : Upd NoB w.heap h4 := nz (Z' := NoB) (fun _ e => e.elim) (nz hz (nz hz u1 u2) u3) u4
    have u06 : Upd NoB w.heap h6 := nz (Z' := NoB) (fun _ e => e.elim) (nz hz u04 u5) u6
    have B : Blk h6 bb 4096 (fun _ => .int .u8 0) := B6.congr fun j hj => by
      have : ¬ (((1052672 : Int) - G3.base).toNat + j < 1 * G3.size) := by
        show ¬ (4096 + j < 1 * 4096)
        omega
      rw [if_neg this]
    intro J8 k8
    refine pF rfl (k8 _ _ ?_)
    intro J9 k9
    refine pF rfl (k9 _ _ ?_)
    intro J10 k10
    refine pF rfl (k10 _ _ (iF rfl ?_))
    intro J11 k11 L hL
    have loop : ∀ r i : Nat, i + r = 4096 → L [.slice (some ⟨bb, 0, none⟩) 4096 4096, .int .i64 (i : Int)] h6 := by
      intro r
      induction r with
      | zero =>
        intro i hi
        have : i = 4096 := by omega
        subst this
        exact hL _ _ _ _ _ (iF (by decide) (k11 _ ⟨rfl, u06⟩))
      | succ r ih =>
        intro i hi
        have e3 : IntKind.wrap .i64 ((i : Int) + 1) = ((i + 1 : Nat) : Int) := by rw [IntKind.wrap_i64]; omega
        have t1 : Int.toNat (i : Int) = i := by omega
        refine hL _ _ _ _ _ (iT (by simp; omega) ?_)
        rw [e3, t1]
        refine ⟨_, rfl, by omega, by omega, 0, ?_, iF rfl (ih (i + 1) (by omega))⟩
        rw [add_mk, Nat.mul_one, Nat.zero_add]
        exact B.cell (by omega)
    exact loop 4096 0 rfl
  refine ⟨fun e => ?_, fun e => ?_⟩
  · simp at e
    refine ⟨by decide, by decide, by omega, ?_⟩
    refine main _ 4096 (cp - 0) (by omega) (by omega) (by omega) (slice_front (Row.take hr (by omega)))
  · simp at e
    exact main p n cp (by omega) hnc hnc (Row.take hr hnc)

end
end Go.Proofs.Ytpninapdjcggoaa
