/- links: room, and a range over a list, whatever its rounds do. No condition. -/
import Derived.Test.YtfijahblggnbbaaK2
set_option linter.unusedSimpArgs false
set_option linter.unusedVariables false
namespace Go.Proofs.Ytfijahblggnbbaa
open Go.V Classical

section
variable {w₀ : World} {h : Heap} {s l : Nat} {c : Cfg} {Z : Nat → Prop} {st : Sto} {hd : Int} {K : Value → Heap → Prop}

def roomU (c : Cfg) (st : Sto) : Nat := st.n * c.size / 16

theorem links_room_ok (L : (lsR s l hd).P h) (H : (spR s c Z st).P h) (hK : ∀ h', Upd NoB h h' → K (.int .i64 (roomU c st : Nat)) h') :
    CallV Try.prog w₀ F.links_List_room [.pointer (some ⟨l, 0, none⟩)] h K := by
  refine links_List_room.call ?_
  unfold links_List_room.vc
  have hl := H.good.len H.nl
  have hn := H.nl
  have h64 := H.good.l64
  have hb0 := H.good.b0
  have o0 := H.good.o0
  have hsz := H.good.size_pos
  have hwn : IntKind.wrap .u64 ((st.n : Nat) : Int) = ((st.n : Nat) : Int) := by rw [IntKind.wrap_u64, Int.emod_eq_of_lt (by omega) (by omega)]
  refine ⟨_, rfl, _, ls_s L, mem_Regions_ok H ⟨_, rfl, ?_⟩⟩
  rw [hwn]
  by_cases hz : st.n = 0
  · refine iT (by simp [hz]) ?_
    have := hK h (Upd.refl _ _)
    simpa [roomU, hz] using this
  refine iF (by simp [hz]) fun L2 hL2 => ?_
  generalize hA : st.n * c.size = A at hl
  have loop : ∀ (d k : Nat) (h1 : Heap), k + d = c.order.toNat → Upd NoB h h1 → L2 [.pointer (some ⟨l, 0, none⟩), .int .u64 ((st.n : Nat) : Int), .int .u64 ((4096 * 2 ^ k : Nat) : Int)] h1 := by
    intro d
    induction d with
    | zero =>
      intro k h1 hk u1
      have L1 := (lsR s l hd).st L u1 fun _ _ => id
      have H1 := (spR s c Z st).st H u1 fun _ _ => id
      have hk : k = c.order.toNat := by omega
      subst hk
      have eS : 4096 * 2 ^ c.order.toNat = c.size := rfl
      rw [eS]
      have hE : Go.Proofs.Ytfijahblggnbbaa.Sp h1 s c st.n st.M Z := H1
      refine hL2 _ _ _ _ ⟨_, rfl, _, ls_s L1, _, rfl, _, ls_s L1, mem_End_ok H1 ⟨_, rfl, ls_s L1, ?_⟩⟩
      have eB : (c.size : Int) * (st.n : Int) = (A : Nat) := by rw [← hA, Int.natCast_mul, Int.mul_comm]
      have e2 : 2 * (c.size : Int) * (st.n : Int) = 2 * (A : Nat) := by rw [Int.mul_assoc, eB]
      have hc := H.good.size_le
      rw [hA]
      have w1 : IntKind.wrap .u64 (2 * (c.size : Int)) = 2 * (c.size : Int) := by rw [IntKind.wrap_u64, Int.emod_eq_of_lt (by omega) (by omega)]
      have w2 : IntKind.wrap .u64 (2 * (c.size : Int) * (st.n : Int)) = 2 * (A : Nat) := by rw [e2, IntKind.wrap_u64, Int.emod_eq_of_lt (by omega) (by omega)]
      rw [w1, w2, IntKind.wrap_u64]
      have hA1 : 4096 ≤ A := by rw [← hA]; exact Nat.le_trans hsz (Nat.le_mul_of_pos_left _ (by omega))
      refine mem_Byte_ok (by omega) H1 (fun t h2 u2 => ?_) (fun t h2 u2 => ?_)
      · exfalso
        unfold There at t
        rw [hA] at t
        omega
      · refine ⟨_, _, rfl, iT rfl ⟨by decide, ?_⟩⟩
        have := hK h2 (u1.nx u2 fun _ e _ => e)
        have w3 : IntKind.wrap .u64 ((c.size : Int) * (st.n : Int)) = (A : Nat) := by rw [eB, IntKind.wrap_u64, Int.emod_eq_of_lt (by omega) (by omega)]
        rw [w3]
        have w4 : Int.tdiv ((A : Nat) : Int) 16 = ((A / 16 : Nat) : Int) := by rw [Int.tdiv_eq_ediv_of_nonneg (by omega)]; omega
        rw [w4]
        have w5 : IntKind.wrap .u64 ((A / 16 : Nat) : Int) = ((A / 16 : Nat) : Int) := by rw [IntKind.wrap_u64, Int.emod_eq_of_lt (by omega) (by omega)]
        rw [w5, IntWalk.i64_in _ (by omega)]
        rw [roomU, hA] at this
        exact this
    | succ d ih =>
      intro k h1 hk u1
      have L1 := (lsR s l hd).st L u1 fun _ _ => id
      have H1 := (spR s c Z st).st H u1 fun _ _ => id
      refine hL2 _ _ _ _ ⟨_, rfl, _, ls_s L1, _, rfl, _, ls_s L1, mem_End_ok H1 ⟨_, rfl, ls_s L1, ?_⟩⟩
      rw [hA]
      have hc := H.good.size_le
      have hle : 2 * (4096 * 2 ^ k) ≤ c.size := by
        have : 2 ^ (k + 1) ≤ 2 ^ c.order.toNat := Nat.pow_le_pow_right (by omega) (by omega)
        rw [Nat.pow_succ] at this
        unfold Cfg.size
        omega
      have hnx : 4096 * 2 ^ (k + 1) = 4096 * 2 ^ k * 2 := by rw [Nat.pow_succ, Nat.mul_assoc]
      have ih' := ih (k + 1)
      rw [hnx] at ih'
      generalize hB : 4096 * 2 ^ k = B at hle ih' ⊢
      have hBn : 2 * (B * st.n) ≤ A := by
        rw [← hA, Nat.mul_comm st.n, ← Nat.mul_assoc]
        exact Nat.mul_le_mul_right _ hle
      have w1 : IntKind.wrap .u64 (2 * (B : Int)) = 2 * (B : Int) := by rw [IntKind.wrap_u64, Int.emod_eq_of_lt (by omega) (by omega)]
      have e2 : 2 * (B : Int) * (st.n : Int) = 2 * ((B * st.n : Nat) : Int) := by rw [Int.mul_assoc, ← Int.natCast_mul]
      have hX : 0 < B * st.n := Nat.mul_pos (by rw [← hB]; exact Nat.mul_pos (by omega) (Nat.pow_pos (by omega))) (by omega)
      generalize B * st.n = X at hBn e2 hX
      have w2 : IntKind.wrap .u64 (2 * (B : Int) * (st.n : Int)) = 2 * (X : Int) := by rw [e2, IntKind.wrap_u64, Int.emod_eq_of_lt (by omega) (by omega)]
      rw [w1, w2, IntKind.wrap_u64, Int.emod_eq_of_lt (by omega) (by omega)]
      refine mem_Byte_ok (by omega) H1 (fun t h2 u2 => ?_) (fun t h2 u2 => ?_)
      · refine ⟨_, _, rfl, iF rfl ?_⟩
        have w3 : IntKind.wrap .u64 ((B : Int) * 2) = ((B * 2 : Nat) : Int) := by rw [IntKind.wrap_u64, Int.emod_eq_of_lt (by omega) (by omega)]; omega
        rw [w3]
        exact ih' h2 (by omega) (u1.nx u2 fun _ e _ => e)
      · exfalso
        apply t
        unfold There
        rw [hA]
        omega
  have := loop c.order.toNat 0 h (by omega) (Upd.refl _ _)
  simpa using this

end
end Go.Proofs.Ytfijahblggnbbaa
