/- Chapter 2's laws: any call done on both. No condition. -/
import Derived.Test.YtpninapdjcggoaaWE
set_option linter.unusedSimpArgs false
set_option linter.unusedVariables false
namespace Go.Proofs.Ytpninapdjcggoaa
open Go.V Classical

section
variable {w₀ : World} {h : Heap} {s n mc : Nat} {c : Cfg} {M : Nat → Int} {mp : Option Addr} {Z Y : Nat → Prop} {K : Value → Heap → Prop} {o : OpV} {g : Nat → Int}

theorem ref2_Byte_int {p : Int} (t : There c n p 1) (H : Rs h c n M mp mc Y) (hK : ∀ h', Upd NoB h h' → K (.int .u8 (M (p - c.base).toNat)) h') : CallV Try.prog w₀ F.croftref2_Byte [rsv c n mp mc, .int .u64 p] h K := by
  obtain ⟨off, rfl, eo, ho⟩ := there_off t (by omega) (by omega)
  have h1 : Int.toNat 1 = 1 := rfl
  rw [h1] at ho
  rw [eo] at hK
  exact ref2_Byte_ok H ho hK

theorem ref2_Word_int {p : Int} (t : There c n p 8) (H : Rs h c n M mp mc Y) (hK : ∀ h', Upd NoB h h' → K (.int .u64 (wrd (fun i => M ((p - c.base).toNat + i)) 8)) h') : CallV Try.prog w₀ F.croftref2_Word [rsv c n mp mc, .int .u64 p] h K := by
  obtain ⟨off, rfl, eo, ho⟩ := there_off t (by omega) (by omega)
  have h1 : Int.toNat 8 = 8 := rfl
  rw [h1] at ho
  rw [eo] at hK
  exact ref2_Word_ok ho H hK

theorem ref2_SetWord_int {p v : Int} (hv : 0 ≤ v ∧ v < 18446744073709551616) (t : There c n p 8) (H : Rs h c n M mp mc Y)
    (hK : ∀ h', Upd Y h h' → Rs h' c n (fun o => if (p - c.base).toNat ≤ o ∧ o < (p - c.base).toNat + 8 then byteOf v (o - (p - c.base).toNat) else M o) mp mc Y → K (.tuple #[]) h') :
    CallV Try.prog w₀ F.croftref2_SetWord [rsv c n mp mc, .int .u64 p, .int .u64 v] h K := by
  obtain ⟨off, rfl, eo, ho⟩ := there_off t (by omega) (by omega)
  have h1 : Int.toNat 8 = 8 := rfl
  rw [h1] at ho
  rw [eo] at hK
  exact ref2_SetWord_ok hv ho H hK

theorem Fr3.upd2 {S : Nat → Prop} {k : Nat} {hx hy : Heap} (F : Fr3 k hx c n mp mc o) (hu : Upd S hx hy) (hs : ∀ b, S b → b < k ∨ k + 3 ≤ b) : Fr3 k hy c n mp mc o :=
  ⟨F.t.upd hu (fun e => by have := hs _ e; omega), F.o.upd hu (fun e => by have := hs _ e; omega), let ⟨f, B⟩ := F.r; ⟨f, B.upd hu (fun e => by have := hs _ e; omega)⟩⟩

/-- A variable of the document's space, laid and set. -/
theorem lay4 (hx : Heap) (v0 v1 v2 v3 : Value) {T : TypeId} {a0 a1 a2 a3 : Value} : let hB := hx.push (.cells #[a0, a1, a2, a3] T); let hC := setCs hB ⟨hx.size, 0, none⟩ 0 [v0, v1, v2, v3];
    WrN hB ⟨hx.size, 0, none⟩ 4 ∧ Upd NoB hx hC ∧ hC.size = hx.size + 1 ∧ cellAt hC ⟨hx.size, 0, none⟩ = some v0 ∧ cellAt hC ⟨hx.size, 1, none⟩ = some v1 ∧ cellAt hC ⟨hx.size, 2, none⟩ = some v2 ∧ cellAt hC ⟨hx.size, 3, none⟩ = some v3 := by
  intro hB hC
  have B : Blk hB hx.size 4 (fun j => (#[a0, a1, a2, a3] : Array Value).getD j undef) := Blk.new hx _ T
  obtain ⟨r1, r2, r3, r4, r5, r6⟩ := res4 B v0 v1 v2 v3
  refine ⟨r1, (push_upd NoB hx _).nx r6 fun b e hb => by omega, ?_, r2, r3, r4, r5⟩
  show (setCs hB _ 0 _).size = _
  rw [setCs_size]
  simp [hB]

theorem played_ok (ho : o.Ok h g (fun b => Z b ∨ Y b)) (D : Duo h s c n M mp mc Z Y)
    (hK : ∀ (h' : Heap) (n' : Nat) (M' : Nat → Int) (mp' : Option Addr) (mc' : Nat) (Z' Y' : Nat → Prop), Upd (fun b => Z b ∨ Y b) h h' → Duo h' s c n' M' mp' mc' Z' Y' → (∀ b, Z' b → Z b ∨ h.size ≤ b) → (∀ b, Y' b → Y b ∨ h.size ≤ b) →
      K (.tuple #[rsv c n' mp' mc', .bool true]) h') :
    CallV Try.prog w₀ F.croftlaw2_played [.pointer (some ⟨s, 0, none⟩), rsv c n mp mc, opv o] h K := by
  refine croftlaw2_played.call ?_
  unfold croftlaw2_played.vc
  simp only [Array.size_push, add_mk, Nat.zero_add]
  have hlt : ∀ b, (Z b ∨ Y b) → b < h.size := fun b e => e.elim (D.sp.lt b) (D.rs.lt b)
  have uH : Upd NoB h (H3 h c n mp mc o) := H3_upd
  have F3 : Fr3 h.size (H3 h c n mp mc o) c n mp mc o := H3_fr
  have s3 : (H3 h c n mp mc o).size = h.size + 3 := by simp [H3, HP]
  have D3 := D.upd uH (fun _ _ => id) fun _ _ => id
  have O3 := ho.upd uH fun _ e => e.elim
  have out : ∀ (hx : Heap) (n' : Nat) (M' : Nat → Int) (mp' : Option Addr) (mc' : Nat) (Z' Y' : Nat → Prop) (b : Bool), Upd (fun b => Z b ∨ Y b) (H3 h c n mp mc o) hx → Duo hx s c n' M' mp' mc' Z' Y' →
      (∀ b, Z' b → Z b ∨ h.size + 3 ≤ b) → (∀ b, Y' b → Y b ∨ h.size + 3 ≤ b) → b = true →
      WrN hx ⟨h.size + 1 + 1, 0, none⟩ 4 ∧ ∃ z0_0 : Int, cellAt (setCs hx ⟨h.size + 1 + 1, 0, none⟩ 0 [.int .u64 c.base, .int .u64 (c.size : Int), .int .i64 c.limit, .slice mp' (n' * c.size) mc']) ⟨h.size + 1 + 1, 0, none⟩ = some (.int .u64 z0_0) ∧
        ∃ z0_1 : Int, cellAt (setCs hx ⟨h.size + 1 + 1, 0, none⟩ 0 [.int .u64 c.base, .int .u64 (c.size : Int), .int .i64 c.limit, .slice mp' (n' * c.size) mc']) (Addr.add ⟨h.size + 1 + 1, 0, none⟩ 1) = some (.int .u64 z0_1) ∧
        ∃ z0_2 : Int, cellAt (setCs hx ⟨h.size + 1 + 1, 0, none⟩ 0 [.int .u64 c.base, .int .u64 (c.size : Int), .int .i64 c.limit, .slice mp' (n' * c.size) mc']) (Addr.add ⟨h.size + 1 + 1, 0, none⟩ 2) = some (.int .i64 z0_2) ∧
        ∃ (z0_3p : Option Addr) (z0_3n : Nat) (z0_3c : Nat), cellAt (setCs hx ⟨h.size + 1 + 1, 0, none⟩ 0 [.int .u64 c.base, .int .u64 (c.size : Int), .int .i64 c.limit, .slice mp' (n' * c.size) mc']) (Addr.add ⟨h.size + 1 + 1, 0, none⟩ 3) = some (.slice z0_3p z0_3n z0_3c) ∧
          K (.tuple #[.agg #[.int .u64 z0_0, .int .u64 z0_1, .int .i64 z0_2, .slice z0_3p z0_3n z0_3c], .bool b]) (setCs hx ⟨h.size + 1 + 1, 0, none⟩ 0 [.int .u64 c.base, .int .u64 (c.size : Int), .int .i64 c.limit, .slice mp' (n' * c.size) mc']) := by
    intro hx n' M' mp' mc' Z' Y' b ux Dx gz gy hb
    subst hb
    obtain ⟨f, Br⟩ := (F3.upd ux hlt).r
    obtain ⟨r1, r2, r3, r4, r5, r6⟩ := res4 Br (.int .u64 c.base) (.int .u64 (c.size : Int)) (.int .i64 c.limit) (.slice mp' (n' * c.size) mc')
    refine ⟨r1, _, r2, _, by rw [add_mk]; exact r3, _, by rw [add_mk]; exact r4, _, _, _, by rw [add_mk]; exact r5, hK _ n' M' mp' mc' Z' Y' ?_ (Dx.upd r6 (fun b hb e => ?_) (fun b hb e => ?_)) (fun b hb => (gz b hb).imp id fun e => by omega) (fun b hb => (gy b hb).imp id fun e => by omega)⟩
    · exact Upd.trans (Upd.trans uH ux (fun b e => e.elim) (fun b e _ => e)) r6 (fun b e => e) (fun b e hb => by omega)
    · rcases gz b hb with e' | e'
      · have := hlt b (.inl e'); omega
      · omega
    · rcases gy b hb with e' | e'
      · have := hlt b (.inr e'); omega
      · omega
  have outD : ∀ (hx : Heap) (M' : Nat → Int) (b : Bool), Upd (fun b => Z b ∨ Y b) (H3 h c n mp mc o) hx → Duo hx s c n M' mp mc Z Y → b = true → _ := fun hx M' b ux Dx hb =>
    out hx n M' mp mc Z Y b ux Dx (fun b e => .inl e) (fun b e => .inl e) hb
  -- flag and the end
  have last : ∀ (hx : Heap) (M' : Nat → Int) (t : Prop) [Decidable t], Upd (fun b => Z b ∨ Y b) (H3 h c n mp mc o) hx → Duo hx s c n M' mp mc Z Y →
      CallV Try.prog w₀ F.croftlaw2_flag [.bool (decide t)] hx fun v52 h52 => ∃ r52 : Int, v52 = .int .i64 r52 ∧ h52 = hx ∧ ((if t then (0 : Int) else 4) == r52) = true := by
    intro hx M' t _ ux Dx
    refine flag_ok ⟨_, rfl, rfl, ?_⟩
    by_cases ht : t <;> simp [ht]
  have six : ∀ (J6 : List Value → Heap → Prop) (hx : Heap) (M' : Nat → Int) (r : Int) (t : Prop) [Decidable t], Upd (fun b => Z b ∨ Y b) (H3 h c n mp mc o) hx → Duo hx s c n M' mp mc Z Y → r = (if t then 0 else 4) →
      (∀ (x6 : Addr) (x10 : Addr) (x12 : Bool) (x13 : Int) (hJ6 : Heap), (∃ n49_0 : Int, cellAt hJ6 x6 = some (.int .u64 n49_0) ∧ ∃ n49_1 : Int, cellAt hJ6 (x6.add 1) = some (.int .u64 n49_1) ∧ ∃ n49_2 : Int, cellAt hJ6 (x6.add 2) = some (.int .i64 n49_2) ∧ ∃ n49_3p : Option Addr, ∃ n49_3n : Nat, ∃ n49_3c : Nat, cellAt hJ6 (x6.add 3) = some (.slice n49_3p n49_3n n49_3c) ∧ CallV Try.prog w₀ F.croftlaw2_flag [(.bool x12)] hJ6 fun (v52 : Value) (h52 : Heap) => ∃ r52 : Int, v52 = (.int .i64 r52) ∧ (cellAt h52 x6 = some (.int .u64 n49_0) ∧ cellAt h52 (x6.add 1) = some (.int .u64 n49_1) ∧ cellAt h52 (x6.add 2) = some (.int .i64 n49_2) ∧ cellAt h52 (x6.add 3) = some (.slice n49_3p n49_3n n49_3c) ∧ (WrN h52 x10 4 ∧ (∃ z0_0 : Int, cellAt (setCs h52 x10 0 [(.int .u64 n49_0), (.int .u64 n49_1), (.int .i64 n49_2), (.slice n49_3p n49_3n n49_3c)]) x10 = some (.int .u64 z0_0) ∧ ∃ z0_1 : Int, cellAt (setCs h52 x10 0 [(.int .u64 n49_0), (.int .u64 n49_1), (.int .i64 n49_2), (.slice n49_3p n49_3n n49_3c)]) (x10.add 1) = some (.int .u64 z0_1) ∧ ∃ z0_2 : Int, cellAt (setCs h52 x10 0 [(.int .u64 n49_0), (.int .u64 n49_1), (.int .i64 n49_2), (.slice n49_3p n49_3n n49_3c)]) (x10.add 2) = some (.int .i64 z0_2) ∧ ∃ z0_3p : Option Addr, ∃ z0_3n : Nat, ∃ z0_3c : Nat, cellAt (setCs h52 x10 0 [(.int .u64 n49_0), (.int .u64 n49_1), (.int .i64 n49_2), (.slice n49_3p n49_3n n49_3c)]) (x10.add 3) = some (.slice z0_3p z0_3n z0_3c) ∧ K (.tuple #[(.agg #[(.int .u64 z0_0), (.int .u64 z0_1), (.int .i64 z0_2), (.slice z0_3p z0_3n z0_3c)]), (.bool (x13 == r52))]) (setCs h52 x10 0 [(.int .u64 n49_0), (.int .u64 n49_1), (.int .i64 n49_2), (.slice n49_3p n49_3n n49_3c)]))))) →
        J6 [(.pointer (some x6)), (.pointer (some x10)), (.bool x12), (.int .i64 x13)] hJ6) →
      J6 [.pointer (some ⟨h.size, 0, none⟩), .pointer (some ⟨h.size + 1 + 1, 0, none⟩), .bool (decide t), .int .i64 r] hx := by
    intro J6 hx M' r t _ ux Dx hr k6
    apply k6
    have Fx := F3.upd ux hlt
    refine ⟨_, Fx.t0, _, by rw [add_mk]; exact Fx.t1, _, by rw [add_mk]; exact Fx.t2, _, _, _, by rw [add_mk]; exact Fx.t3, ?_⟩
    refine (last hx M' t ux Dx).mono ?_
    rintro v52 h52 ⟨r52, rfl, rfl, hr52⟩
    refine ⟨_, rfl, Fx.t0, by rw [add_mk]; exact Fx.t1, by rw [add_mk]; exact Fx.t2, by rw [add_mk]; exact Fx.t3, outD h52 M' _ ux Dx (by rw [hr]; exact hr52)⟩
  refine ⟨_, F3.o1, _, F3.o2, ?_⟩
  intro J4 k4
  have main : ∀ p q : Int, 0 ≤ p ∧ p < 18446744073709551616 → 0 ≤ q ∧ q < 18446744073709551616 →
      J4 [.pointer (some ⟨s, 0, none⟩), .pointer (some ⟨h.size, 0, none⟩), .pointer (some ⟨h.size + 1, 0, none⟩), .pointer (some ⟨h.size + 1 + 1, 0, none⟩), .int .u64 p, .int .u64 q] (H3 h c n mp mc o) := by
    intro p q hp hq
    apply k4
    refine ⟨_, F3.o0, ?_⟩
    by_cases k1 : o.kind = 1
    · refine iT (by simp [k1]) ⟨_, F3.t0, _, by rw [add_mk]; exact F3.t1, _, by rw [add_mk]; exact F3.t2, _, _, _, by rw [add_mk]; exact F3.t3, _, by rw [add_mk]; exact F3.o6, ?_⟩
      refine ref2_Commit_ok D3.rs (fun hd h47 u47 => ⟨_, _, _, _, _, _, _, _, rfl, ?_⟩) (fun hd hlim h47 mp' mc' Y' u47 hY' R47 => ⟨_, _, _, _, _, _, _, _, rfl, ?_⟩)
      · obtain ⟨w1, w2, w3, w4, w5, w6, w7⟩ := lay4 h47 (.int .u64 c.base) (.int .u64 (c.size : Int)) (.int .i64 c.limit) (.slice mp (n * c.size) mc) (T := T.T_croftref2_Space) (a0 := .int .u64 0) (a1 := .int .u64 0) (a2 := .int .i64 0) (a3 := .slice none 0 0)
        have uC := u47.nx w2 fun _ e _ => e
        have FC := F3.upd uC fun _ e => e.elim
        have DC := D3.upd uC (fun _ _ => id) fun _ _ => id
        have vC : Upd (fun b => Z b ∨ Y b) (H3 h c n mp mc o) _ := uC.mono fun _ e _ => e.elim
        refine ⟨w1, _, by rw [add_mk]; exact FC.o6, ?_⟩
        refine mem_Commit_ok DC.sp (fun _ => ⟨_, _, rfl, ?_⟩) fun hd' hl' => ?_
        · refine ⟨_, w4, _, w5, _, w6, _, _, _, w7, ?_⟩
          intro J k
          exact qT rfl (k _ _ (outD _ M true vC DC rfl))
        · rcases hd with hd | hd
          · rw [hd] at hd'; cases hd'
          · omega
      · obtain ⟨w1, w2, w3, w4, w5, w6, w7⟩ := lay4 h47 (.int .u64 c.base) (.int .u64 (c.size : Int)) (.int .i64 c.limit) (.slice mp' ((n + 1) * c.size) mc') (T := T.T_croftref2_Space) (a0 := .int .u64 0) (a1 := .int .u64 0) (a2 := .int .i64 0) (a3 := .slice none 0 0)
        have uC := u47.nx w2 fun _ e _ => e
        have FC := F3.upd uC fun _ e => e.elim
        have DC := D3.upd uC (fun _ _ => id) fun _ _ => id
        have vC : Upd (fun b => Z b ∨ Y b) (H3 h c n mp mc o) _ := uC.mono fun _ e _ => e.elim
        have RC := R47.upd w2 fun _ _ => id
        refine ⟨w1, _, by rw [add_mk]; exact FC.o6, ?_⟩
        refine mem_Commit_ok DC.sp (fun hd' => ?_) fun _ _ h55 u55 S55 => ⟨_, _, rfl, ?_⟩
        · rcases hd' with hd' | hd'
          · rw [hd] at hd'; cases hd'
          · omega
        · have h47s : (H3 h c n mp mc o).size ≤ h47.size := u47.1
          have nz : ¬ Z h47.size := fun hh => by have := hlt _ (.inl hh); omega
          refine ⟨_, cellAt_upd w4 u55 nz, _, cellAt_upd w5 u55 nz, _, cellAt_upd w6 u55 nz, _, _, _, cellAt_upd w7 u55 nz, ?_⟩
          intro J k
          refine qT (beq_self_eq_true _) (k _ _ (out h55 (n + 1) _ mp' mc' _ Y' true (Upd.trans vC u55 (fun b e => e) (fun b e _ => .inl e)) ⟨S55, RC.upd u55 fun b hb hb' => ?_, fun b hb hb' => ?_⟩ (fun b hb => ?_) (fun b hb => .inr ?_) rfl))
          · have := hlt b (.inl hb'); have := hY' b hb; omega
          · rcases hb with hb | hb
            · have := hlt b (.inl hb); have := hY' b hb'; omega
            · have := R47.lt b hb'; omega
          · rcases hb with hb | hb
            · exact .inl hb
            · exact .inr (by omega)
          · have := hY' b hb; omega
    refine iF (by simpa using k1) ⟨_, F3.o0, ?_⟩
    by_cases k2 : o.kind = 2
    · refine iT (by simp [k2]) ⟨_, F3.t0, _, by rw [add_mk]; exact F3.t1, _, by rw [add_mk]; exact F3.t2, _, _, _, by rw [add_mk]; exact F3.t3, _, by rw [add_mk]; exact F3.o7, ?_⟩
      refine ref2_Decommit_ok ho.count D3.rs (fun hd h47 u47 => ⟨_, _, _, _, _, _, _, rfl, ?_⟩) (fun m hm hmn h47 mp' mc' Y' u47 hY' R47 => ⟨_, _, _, _, _, _, _, rfl, ?_⟩)
      · obtain ⟨w1, w2, w3, w4, w5, w6, w7⟩ := lay4 h47 (.int .u64 c.base) (.int .u64 (c.size : Int)) (.int .i64 c.limit) (.slice mp (n * c.size) mc) (T := T.T_croftref2_Space) (a0 := .int .u64 0) (a1 := .int .u64 0) (a2 := .int .i64 0) (a3 := .slice none 0 0)
        have uC := u47.nx w2 fun _ e _ => e
        have FC := F3.upd uC fun _ e => e.elim
        have DC := D3.upd uC (fun _ _ => id) fun _ _ => id
        have vC : Upd (fun b => Z b ∨ Y b) (H3 h c n mp mc o) _ := uC.mono fun _ e _ => e.elim
        refine ⟨w1, _, w4, _, w5, _, w6, _, _, _, w7, _, by rw [add_mk]; exact FC.o7, ?_⟩
        refine mem_Decommit_ok ho.count DC.sp (fun _ => ⟨_, rfl, w4, w5, w6, w7, ?_⟩) fun m hm hmn => ?_
        · exact outD _ M true vC DC rfl
        · omega
      · obtain ⟨w1, w2, w3, w4, w5, w6, w7⟩ := lay4 h47 (.int .u64 c.base) (.int .u64 (c.size : Int)) (.int .i64 c.limit) (.slice mp' (m * c.size) mc') (T := T.T_croftref2_Space) (a0 := .int .u64 0) (a1 := .int .u64 0) (a2 := .int .i64 0) (a3 := .slice none 0 0)
        have uC := u47.nx w2 fun _ e _ => e
        have FC := F3.upd uC fun _ e => e.elim
        have DC := D3.upd uC (fun _ _ => id) fun _ _ => id
        have vC : Upd (fun b => Z b ∨ Y b) (H3 h c n mp mc o) _ := uC.mono fun _ e _ => e.elim
        have RC := R47.upd w2 fun _ _ => id
        refine ⟨w1, _, w4, _, w5, _, w6, _, _, _, w7, _, by rw [add_mk]; exact FC.o7, ?_⟩
        refine mem_Decommit_ok ho.count DC.sp (fun hd' => ?_) fun m' hm' _ h55 u55 s55 S55 => ?_
        · omega
        · have em : m' = m := by omega
          subst em
          have h47s : (H3 h c n mp mc o).size ≤ h47.size := u47.1
          have nz : ¬ Z h47.size := fun hh => by have := hlt _ (.inl hh); omega
          refine ⟨_, rfl, cellAt_upd w4 u55 nz, cellAt_upd w5 u55 nz, cellAt_upd w6 u55 nz, cellAt_upd w7 u55 nz, ?_⟩
          refine out h55 m' M mp' mc' Z Y' true (Upd.trans vC u55 (fun b e => e) (fun b e _ => .inl e)) ⟨S55, RC.upd u55 fun b hb hb' => ?_, fun b hb hb' => ?_⟩ (fun b hb => .inl hb) (fun b hb => .inr ?_) rfl
          · have := hlt b (.inl hb'); have := hY' b hb; omega
          · have := hlt b (.inl hb); have := hY' b hb'; omega
          · have := hY' b hb; omega
    refine iF (by simpa using k2) ⟨_, F3.o0, ?_⟩
    intro J16 k16
    have many : 7 ≤ o.kind ∧ o.kind ≤ 10 → J16 true (H3 h c n mp mc o) := by
      intro hk
      obtain ⟨r1, r2⟩ := outD (H3 h c n mp mc o) M true (Upd.refl _ _) D3 rfl
      refine k16 _ _ (iT rfl ⟨_, F3.t0, _, by rw [add_mk]; exact F3.t1, _, by rw [add_mk]; exact F3.t2, _, _, _, by rw [add_mk]; exact F3.t3, _, F3.o0, _, by rw [add_mk]; exact F3.o1, _, by rw [add_mk]; exact F3.o2, _, by rw [add_mk]; exact F3.o3, _, by rw [add_mk]; exact F3.o4, _, by rw [add_mk]; exact F3.o5, _, by rw [add_mk]; exact F3.o6, _, by rw [add_mk]; exact F3.o7, _, _, _, by rw [add_mk]; exact F3.o8, ?_⟩)
      refine many_ok hp hq O3 D3 fun h97 M97 u97 D97 => ⟨_, _, _, _, _, _, _, rfl, ?_⟩
      exact outD h97 M97 true u97 D97 rfl
    have few : ¬ (7 ≤ o.kind ∧ o.kind ≤ 10) → J16 false (H3 h c n mp mc o) := by
      intro hk
      refine k16 _ _ (iF rfl ⟨_, F3.t0, _, by rw [add_mk]; exact F3.t1, _, by rw [add_mk]; exact F3.t2, _, _, _, by rw [add_mk]; exact F3.t3, ?_⟩)
      refine ref2_There_ok hp (by decide) D3.rs fun h102 u102 => ⟨_, rfl, ?_⟩
      have F102 := F3.upd u102 fun _ e => e.elim
      have D102 := D3.upd u102 (fun _ _ => id) fun _ _ => id
      refine ⟨_, F102.t0, _, by rw [add_mk]; exact F102.t1, _, by rw [add_mk]; exact F102.t2, _, _, _, by rw [add_mk]; exact F102.t3, ?_⟩
      refine ref2_There_ok hp (by decide) D102.rs fun h105 u105 => ⟨_, rfl, ?_⟩
      have FA := F102.upd u105 fun _ e => e.elim
      have DA := D102.upd u105 (fun _ _ => id) fun _ _ => id
      have uA : Upd NoB (H3 h c n mp mc o) h105 := u102.nx u105 fun _ e _ => e
      have vA : Upd (fun b => Z b ∨ Y b) (H3 h c n mp mc o) h105 := uA.mono fun _ e _ => e.elim
      have nxt : ∀ {hy : Heap}, Upd NoB h105 hy → Upd (fun b => Z b ∨ Y b) (H3 h c n mp mc o) hy ∧ Fr3 h.size hy c n mp mc o ∧ Duo hy s c n M mp mc Z Y := fun u =>
        ⟨Upd.trans vA u (fun b e => e) (fun b e _ => e.elim), FA.upd u fun _ e => e.elim, DA.upd u (fun _ _ => id) fun _ _ => id⟩
      have nxz : ∀ {hy : Heap}, Upd Z h105 hy → Upd (fun b => Z b ∨ Y b) (H3 h c n mp mc o) hy ∧ Fr3 h.size hy c n mp mc o ∧ Rs hy c n M mp mc Y := fun u =>
        ⟨Upd.trans vA u (fun b e => e) (fun b e _ => .inl e), FA.upd u fun b e => hlt b (.inl e), DA.rs.upd u fun b hb hb' => D.dis b hb' hb⟩
      refine ⟨_, FA.o0, ?_⟩
      by_cases k3 : o.kind = 3
      ·
        refine iT (by simp [k3]) ?_
        refine mem_Byte_ok hp DA.sp (fun t h1 u1 => ⟨_, _, rfl, ?_⟩) (fun t h1 u1 => ⟨_, _, rfl, ?_⟩)
        · obtain ⟨v1, F1, D1⟩ := nxt u1
          refine iF (by simp [t]) ?_
          intro J k
          refine ⟨_, F1.t0, _, by rw [add_mk]; exact F1.t1, _, by rw [add_mk]; exact F1.t2, _, _, _, by rw [add_mk]; exact F1.t3, qT rfl ⟨_, F1.t0, _, by rw [add_mk]; exact F1.t1, _, by rw [add_mk]; exact F1.t2, _, _, _, by rw [add_mk]; exact F1.t3, ?_⟩⟩
          refine ref2_Byte_int t D1.rs fun h2 u2 => ⟨_, rfl, ?_⟩
          obtain ⟨v2, F2, D2⟩ := nxt (u1.nx u2 fun _ e _ => e)
          obtain ⟨r1, r2⟩ := outD h2 M _ v2 D2 (beq_self_eq_true (M (p - c.base).toNat))
          exact ⟨F2.t0, by rw [add_mk]; exact F2.t1, by rw [add_mk]; exact F2.t2, by rw [add_mk]; exact F2.t3, r1, k _ _ _ r2⟩
        · obtain ⟨v1, F1, D1⟩ := nxt u1
          refine iT (by simp [t]) ⟨_, F1.t0, _, by rw [add_mk]; exact F1.t1, _, by rw [add_mk]; exact F1.t2, _, _, _, by rw [add_mk]; exact F1.t3, ?_⟩
          intro J k
          exact qT rfl (k _ _ (outD h1 M _ v1 D1 rfl))
      refine iF (by simpa using k3) ⟨_, FA.o0, ?_⟩
      by_cases k4' : o.kind = 4
      · refine iT (by simp [k4']) ⟨_, by rw [add_mk]; exact FA.o5, ?_⟩
        have ew : 0 ≤ IntKind.wrap .u8 o.V ∧ IntKind.wrap .u8 o.V < 256 := by rw [IntKind.wrap_u8]; omega
        refine mem_SetByte_ok hp ew DA.sp (fun t h1 u1 S1 => ⟨_, rfl, ?_⟩) (fun t h1 u1 => ⟨_, rfl, ?_⟩)
        · obtain ⟨v1, F1, R1⟩ := nxz u1
          intro J k
          refine iT (by simp [t]) ⟨_, F1.t0, _, by rw [add_mk]; exact F1.t1, _, by rw [add_mk]; exact F1.t2, _, _, _, by rw [add_mk]; exact F1.t3, _, by rw [add_mk]; exact F1.o5, ?_⟩
          refine ref2_Fill_int (by decide) ew t R1 fun h2 u2 R2 => ⟨rfl, ?_⟩
          have v2 : Upd (fun b => Z b ∨ Y b) (H3 h c n mp mc o) h2 := Upd.trans v1 u2 (fun b e => e) (fun b e _ => .inr e)
          refine six J h2 _ 0 _ v2 ⟨S1.upd u2 fun b hb hb' => D.dis b hb hb', R2.congr fun x hx => ?_, D.dis⟩ (by rw [if_pos t]) k
          have h1 : Int.toNat 1 = 1 := rfl
          rw [h1]
          by_cases cx : x = (p - c.base).toNat
          · rw [if_pos (by omega), if_pos cx]
          · rw [if_neg (by omega), if_neg cx]
        · obtain ⟨v1, F1, D1⟩ := nxt u1
          intro J k
          exact iF (by simp [t]) (six J h1 _ 4 _ v1 D1 (by rw [if_neg t]) k)
      refine iF (by simpa using k4') ⟨_, FA.o0, ?_⟩
      by_cases k5 : o.kind = 5
      ·
        refine iT (by simp [k5]) ?_
        refine mem_Word_ok hp DA.sp (fun t h1 u1 => ⟨_, _, rfl, ?_⟩) (fun t h1 u1 => ⟨_, _, rfl, ?_⟩)
        · obtain ⟨v1, F1, D1⟩ := nxt u1
          refine iF (by simp [t]) ?_
          intro J k
          refine ⟨_, F1.t0, _, by rw [add_mk]; exact F1.t1, _, by rw [add_mk]; exact F1.t2, _, _, _, by rw [add_mk]; exact F1.t3, qT rfl ⟨_, F1.t0, _, by rw [add_mk]; exact F1.t1, _, by rw [add_mk]; exact F1.t2, _, _, _, by rw [add_mk]; exact F1.t3, ?_⟩⟩
          refine ref2_Word_int t D1.rs fun h2 u2 => ⟨_, rfl, ?_⟩
          obtain ⟨v2, F2, D2⟩ := nxt (u1.nx u2 fun _ e _ => e)
          obtain ⟨r1, r2⟩ := outD h2 M _ v2 D2 (beq_self_eq_true (wrd (fun i => M ((p - c.base).toNat + i)) 8))
          exact ⟨F2.t0, by rw [add_mk]; exact F2.t1, by rw [add_mk]; exact F2.t2, by rw [add_mk]; exact F2.t3, r1, k _ _ _ r2⟩
        · obtain ⟨v1, F1, D1⟩ := nxt u1
          refine iT (by simp [t]) ⟨_, F1.t0, _, by rw [add_mk]; exact F1.t1, _, by rw [add_mk]; exact F1.t2, _, _, _, by rw [add_mk]; exact F1.t3, ?_⟩
          intro J k
          exact qT rfl (k _ _ (outD h1 M _ v1 D1 rfl))
      refine iF (by simpa using k5) ⟨_, FA.o0, ?_⟩
      by_cases k6 : o.kind = 6
      · refine iT (by simp [k6]) ⟨_, by rw [add_mk]; exact FA.o5, ?_⟩
        refine mem_SetWord_ok hp ho.V DA.sp (fun t h1 u1 S1 => ⟨_, rfl, ?_⟩) (fun t h1 u1 => ⟨_, rfl, ?_⟩)
        · obtain ⟨v1, F1, R1⟩ := nxz u1
          intro J k
          refine iT (by simp [t]) ⟨_, F1.t0, _, by rw [add_mk]; exact F1.t1, _, by rw [add_mk]; exact F1.t2, _, _, _, by rw [add_mk]; exact F1.t3, _, by rw [add_mk]; exact F1.o5, ?_⟩
          refine ref2_SetWord_int ho.V t R1 fun h2 u2 R2 => ⟨rfl, ?_⟩
          have v2 : Upd (fun b => Z b ∨ Y b) (H3 h c n mp mc o) h2 := Upd.trans v1 u2 (fun b e => e) (fun b e _ => .inr e)
          exact six J h2 _ 0 _ v2 ⟨S1.upd u2 fun b hb hb' => D.dis b hb hb', R2, D.dis⟩ (by rw [if_pos t]) k
        · obtain ⟨v1, F1, D1⟩ := nxt u1
          intro J k
          exact iF (by simp [t]) (six J h1 _ 4 _ v1 D1 (by rw [if_neg t]) k)
      refine iF (by simpa using k6) ?_
      intro J k
      refine ⟨_, FA.t0, _, by rw [add_mk]; exact FA.t1, _, by rw [add_mk]; exact FA.t2, _, _, _, by rw [add_mk]; exact FA.t3, _, FA.t0, _, by rw [add_mk]; exact FA.t1, _, by rw [add_mk]; exact FA.t2, _, _, _, by rw [add_mk]; exact FA.t3, mem_Regions_ok DA.sp ⟨_, rfl, FA.t0, by rw [add_mk]; exact FA.t1, by rw [add_mk]; exact FA.t2, by rw [add_mk]; exact FA.t3, FA.t0, by rw [add_mk]; exact FA.t1, by rw [add_mk]; exact FA.t2, by rw [add_mk]; exact FA.t3, ?_⟩⟩
      refine ref2_Regions_ok DA.rs fun h1 u1 => ⟨_, rfl, ?_⟩
      obtain ⟨v1, F1, D1⟩ := nxt u1
      refine ⟨F1.t0, by rw [add_mk]; exact F1.t1, by rw [add_mk]; exact F1.t2, by rw [add_mk]; exact F1.t3, qT (by simp) ⟨_, F1.t0, _, by rw [add_mk]; exact F1.t1, _, by rw [add_mk]; exact F1.t2, _, _, _, by rw [add_mk]; exact F1.t3, mem_End_ok D1.sp ⟨_, rfl, F1.t0, by rw [add_mk]; exact F1.t1, by rw [add_mk]; exact F1.t2, by rw [add_mk]; exact F1.t3, F1.t0, by rw [add_mk]; exact F1.t1, by rw [add_mk]; exact F1.t2, by rw [add_mk]; exact F1.t3, ?_⟩⟩⟩
      refine ref2_End_ok D1.rs fun h2 u2 => ⟨_, rfl, ?_⟩
      obtain ⟨v2, F2, D2⟩ := nxt (u1.nx u2 fun _ e _ => e)
      obtain ⟨r1, r2⟩ := outD h2 M _ v2 D2 (beq_self_eq_true (c.base + ((n * c.size : Nat) : Int)))
      exact ⟨F2.t0, by rw [add_mk]; exact F2.t1, by rw [add_mk]; exact F2.t2, by rw [add_mk]; exact F2.t3, r1, k _ _ _ r2⟩
    by_cases h7 : 7 ≤ o.kind
    · refine qT (by simpa using h7) ⟨_, F3.o0, ?_⟩
      by_cases h10 : o.kind ≤ 10
      · have e : decide (o.kind ≤ 10) = true := by simpa using h10
        rw [e]
        exact many ⟨h7, h10⟩
      · have e : decide (o.kind ≤ 10) = false := by simpa using h10
        rw [e]
        exact few fun e => h10 e.2
    · exact qF' (by simpa using h7) (few fun e => h7 e.1)
  have eP := ho.P
  have eQ := ho.Q
  have wr : ∀ x : Int, 0 ≤ IntKind.wrap .u64 x ∧ IntKind.wrap .u64 x < 18446744073709551616 := fun x => by rw [IntKind.wrap_u64]; omega
  refine ⟨_, F3.o4, ?_⟩
  by_cases hA : o.A = true
  · exact iF (by simp [hA]) (main _ _ eP eQ)
  · exact iT (by simpa using hA) ⟨_, F3.t0, _, F3.t0, main _ _ (wr _) (wr _)⟩

end
end Go.Proofs.Ytpninapdjcggoaa
