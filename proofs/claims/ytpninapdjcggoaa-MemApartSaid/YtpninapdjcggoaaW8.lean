/- Chapter 2's laws on numbers. No condition. -/
import Derived.Test.YtpninapdjcggoaaW7
set_option linter.unusedSimpArgs false
set_option linter.unusedVariables false
namespace Go.Proofs.Ytpninapdjcggoaa
open Go.V Classical

section
variable {w₀ : World} {h : Heap} {s n : Nat} {c : Cfg} {M : Nat → Int} {Z : Nat → Prop} {K : Value → Heap → Prop}

theorem u8_wf {n : Int} (h : (Lit.int .u8 n).wf = true) : 0 ≤ n ∧ n < 256 := by
  simp [Lit.wf, IntKind.min, IntKind.max, IntKind.signed, IntKind.bits] at h
  omega

theorem i64_wf {n : Int} (h : (Lit.int .i64 n).wf = true) : -9223372036854775808 ≤ n ∧ n ≤ 9223372036854775807 := by
  simp [Lit.wf, IntKind.min, IntKind.max, IntKind.signed, IntKind.bits] at h
  omega

/-- What the laws' spaces are of. -/
def G3 : Cfg := ⟨1048576, 3, 0⟩
theorem G3_good : G3.Good := good_iff.2 (by decide)
theorem G3_size : G3.size = 4096 := rfl

theorem grown_ok {k : Nat} (hk : k ≤ 3) (hK : ∀ (h' : Heap) (s : Nat) (Z : Nat → Prop), Upd NoB h h' → (∀ b, Z b → h.size ≤ b) → Sp h' s G3 k (fun _ => 0) Z → K (.pointer (some ⟨s, 0, none⟩)) h') :
    CallV Try.prog w₀ F.croftlaw2_grown [.int .i64 (k : Int)] h K := by
  refine croftlaw2_grown.call ?_
  unfold croftlaw2_grown.vc
  refine mem_New_ok (by decide) (fun hn => absurd G3_good hn) fun _ h1 s u1 hs S1 => ⟨_, _, rfl, ?_⟩
  intro J2 k2
  refine pF rfl (k2 _ _ (iF rfl ?_))
  intro J3 k3 L hL
  have loop : ∀ (r i : Nat) (hx : Heap) (Z : Nat → Prop), i + r = k → Upd NoB h hx → (∀ b, Z b → h.size ≤ b) → Sp hx s G3 i (fun _ => 0) Z → L [.int .i64 (k : Int), .pointer (some ⟨s, 0, none⟩), .int .i64 (i : Int)] hx := by
    intro r
    induction r with
    | zero =>
      intro i hx Z hi ux hz Sx
      have : i = k := by omega
      subst this
      refine hL _ _ _ _ (iF (by simp) (k3 _ _ (hK _ _ _ ux hz Sx)))
    | succ r ih =>
      intro i hx Z hi ux hz Sx
      refine hL _ _ _ _ (iT (by simp; omega) ?_)
      refine mem_Commit_ok Sx (fun e => ?_) fun _ _ h2 u2 S2 => ⟨_, _, rfl, iF rfl ?_⟩
      · rcases e with e | e
        · cases e
        · have : (i : Int) = 3 := e
          omega
      have e3 : IntKind.wrap .i64 ((i : Int) + 1) = ((i + 1 : Nat) : Int) := by rw [IntKind.wrap_i64]; omega
      rw [e3]
      have v2 : Upd NoB h h2 := ux.nx u2 fun b e hb => absurd (hz b e) (by omega)
      refine ih (i + 1) h2 _ (by omega) v2 (fun b hb => ?_) (S2.congr fun o ho => by simp)
      rcases hb with hb | hb
      · exact hz b hb
      · have := ux.1; omega
  exact loop k 0 h1 _ (by omega) u1 (fun b e => by rw [e]; exact hs) S1

theorem MemHolds_law {w : World} {a v f : Int} (ha : (Lit.int .u64 a).wf = true) (hv : (Lit.int .u64 v).wf = true) (hf : (Lit.int .u8 f).wf = true) :
    CallV Try.prog w F.croftlaw2_MemHolds [.int .u64 a, .int .u64 v, .int .u8 f] w.heap fun v h' => v = .bool true ∧ Upd NoB w.heap h' := by
  have ha := u64_wf ha
  have hv := u64_wf hv
  have hf := u8_wf hf
  refine croftlaw2_MemHolds.call ?_
  unfold croftlaw2_MemHolds.vc
  refine grown_ok (k := 3) (by omega) fun h1 s Z u1 hz S1 => ⟨_, rfl, iF rfl ⟨by decide, ?_⟩⟩
  obtain ⟨off, ho, ho1, ho2⟩ : ∃ off : Nat, IntKind.wrap .u64 ((1048577 : Int) + Int.tmod a 12278) = 1048576 + (off : Int) ∧ 1 ≤ off ∧ off + 9 ≤ 12288 := by
    rw [Int.tmod_eq_emod_of_nonneg ha.1, IntKind.wrap_u64]
    exact ⟨(1 + a % 12278).toNat, by omega, by omega, by omega⟩
  have nz : ∀ {h1 h2 : Heap}, Upd NoB w.heap h1 → Upd Z h1 h2 → Upd NoB w.heap h2 := fun u u' => u.nx u' fun b e hb => absurd (hz b e) (by omega)
  have th : ∀ (x k : Nat), x + k ≤ 12288 → There G3 3 (1048576 + (x : Int)) (k : Int) := fun x k hx => .inr ⟨by show (1048576 : Int) ≤ _; omega, by show (1048576 : Int) + x - 1048576 + k ≤ ((3 * 4096 : Nat) : Int); omega⟩
  have tn : ∀ x : Nat, ((1048576 + (x : Int)) - G3.base).toNat = x := fun x => by show ((1048576 + (x : Int)) - 1048576).toNat = x; omega
  refine mem_Fill_ok (by decide) (by decide) hf S1 (fun _ h2 u2 S2 => ⟨_, rfl, ?_⟩) (fun t => absurd (th 0 12288 (by omega)) t)
  have S2 : Sp h2 s G3 3 (fun _ => f) Z := S2.congr fun o ho => if_pos ⟨by show 0 ≤ o; omega, by have : o < 12288 := ho; show o < 0 + 12288; omega⟩
  rw [ho]
  intro J3 k3
  refine pF rfl ?_
  refine mem_SetWord_ok (by omega) hv S2 (fun _ h3 u3 S3 => ⟨_, rfl, k3 _ _ (iF rfl ?_)⟩) (fun t => absurd (th off 8 (by omega)) t)
  rw [tn] at S3
  refine mem_Word_ok (by omega) S3 (fun _ h4 u4 => ⟨_, _, rfl, ?_⟩) (fun t => absurd (th off 8 (by omega)) t)
  rw [tn]
  have hw : wrd (fun i => if off ≤ off + i ∧ off + i < off + 8 then byteOf v (off + i - off) else f) 8 = v := by
    rw [wrd_congr (g := byteOf v) fun i hi => by rw [if_pos (by omega)]; congr 1; omega, wrd_byteOf]
    exact Int.emod_eq_of_lt hv.1 hv.2
  rw [hw]
  intro J5 k5
  refine pF rfl (k5 _ _ (iF (by simp) ?_))
  have S4 := S3.upd u4 fun _ _ => id
  have u04 : Upd NoB w.heap h4 := nz (nz (nz u1 u2) u3) (u4.mono fun _ e _ => e.elim)
  intro J6 k6 L hL
  have loop : ∀ (r i : Nat) (hx : Heap), i + r = 8 → Upd NoB h4 hx → L [.int .u64 v, .int .u8 f, .pointer (some ⟨s, 0, none⟩), .int .u64 (1048576 + (off : Int)), .int .u64 (i : Int)] hx := by
    intro r
    induction r with
    | zero =>
      intro i hx hi ux
      have : i = 8 := by omega
      subst this
      refine hL _ _ _ _ _ _ (iF (by decide) (k6 _ _ _ _ ?_))
      have e1 : IntKind.wrap .u64 ((1048576 : Int) + (off : Int) - 1) = 1048576 + ((off - 1 : Nat) : Int) := by rw [IntKind.wrap_u64]; omega
      have e2 : IntKind.wrap .u64 ((1048576 : Int) + (off : Int) + 8) = 1048576 + ((off + 8 : Nat) : Int) := by rw [IntKind.wrap_u64]; omega
      rw [e1, e2]
      have Sx := S4.upd ux fun _ _ => id
      refine mem_Byte_ok (by omega) Sx (fun _ h5 u5 => ⟨_, _, rfl, ?_⟩) (fun t => absurd (th (off - 1) 1 (by omega)) t)
      refine mem_Byte_ok (by omega) (Sx.upd u5 fun _ _ => id) (fun _ h6 u6 => ⟨_, _, rfl, ?_⟩) (fun t => absurd (th (off + 8) 1 (by omega)) t)
      rw [tn, tn, if_neg (by omega), if_neg (by omega)]
      intro J9 k9
      refine qT rfl (k9 _ _ ?_)
      intro J10 k10
      refine qT rfl (k10 _ _ ?_)
      intro J11 k11
      refine qT (by simp) (k11 _ _ ⟨by simp, ?_⟩)
      exact ((u04.nx ux fun _ e _ => e).nx u5 fun _ e _ => e).nx u6 fun _ e _ => e
    | succ r ih =>
      intro i hx hi ux
      have e1 : IntKind.wrap .u64 ((1048576 : Int) + (off : Int) + (i : Int)) = 1048576 + ((off + i : Nat) : Int) := by rw [IntKind.wrap_u64]; omega
      refine hL _ _ _ _ _ _ (iT (by simp; omega) ?_)
      rw [e1]
      have Sx := S4.upd ux fun _ _ => id
      refine mem_Byte_ok (by omega) Sx (fun _ h5 u5 => ⟨_, _, rfl, ?_⟩) (fun t => absurd (th (off + i) 1 (by omega)) t)
      rw [tn, if_pos (by omega)]
      intro J14 k14
      have e8 : IntKind.wrap .u64 ((8 : Int) * (i : Int)) = IntKind.wrap .i64 ((8 : Int) * (i : Int)) := by rw [IntKind.wrap_u64, IntKind.wrap_i64]; omega
      have e9 : IntKind.wrap .u64 ((i : Int) + 1) = ((i + 1 : Nat) : Int) := by rw [IntKind.wrap_u64]; omega
      refine pF rfl ⟨?_, k14 _ _ (iF ?_ ?_)⟩
      · rw [IntKind.wrap_u64]; omega
      · rw [e8, shr_step (by omega) hv, show off + i - off = i by omega]
        simp
      · rw [e9]
        exact ih (i + 1) h5 (by omega) (ux.nx u5 fun _ e _ => e)
  exact loop 8 0 h4 rfl (Upd.refl _ _)

end
end Go.Proofs.Ytpninapdjcggoaa
