/- Chapter 2's laws: a call done on both. No condition. -/
import Derived.Test.YtpninapdjcggoaaWD
set_option linter.unusedSimpArgs false
set_option linter.unusedVariables false
namespace Go.Proofs.Ytpninapdjcggoaa
open Go.V Classical

/-- An Op's numbers. -/
structure OpV where
  kind : Int
  P : Int
  Q : Int
  N : Int
  A : Bool
  V : Int
  deny : Bool
  count : Int
  dp : Option Addr
  dn : Nat
  dc : Nat

abbrev opv (o : OpV) : Value := .agg #[.int .i64 o.kind, .int .u64 o.P, .int .u64 o.Q, .int .u64 o.N, .bool o.A, .int .u64 o.V, .bool o.deny, .int .i64 o.count, .slice o.dp o.dn o.dc]

def opf (o : OpV) : Nat → Value
  | 0 => .int .i64 o.kind
  | 1 => .int .u64 o.P
  | 2 => .int .u64 o.Q
  | 3 => .int .u64 o.N
  | 4 => .bool o.A
  | 5 => .int .u64 o.V
  | 6 => .bool o.deny
  | 7 => .int .i64 o.count
  | _ => .slice o.dp o.dn o.dc

/-- It was handed in; its bytes lie outside S. -/
structure OpV.Ok (o : OpV) (h : Heap) (g : Nat → Int) (S : Nat → Prop) : Prop where
  P : 0 ≤ o.P ∧ o.P < 18446744073709551616
  Q : 0 ≤ o.Q ∧ o.Q < 18446744073709551616
  N : 0 ≤ o.N ∧ o.N < 18446744073709551616
  V : 0 ≤ o.V ∧ o.V < 18446744073709551616
  count : -9223372036854775808 ≤ o.count ∧ o.count ≤ 9223372036854775807
  dc : o.dn ≤ o.dc ∧ o.dc < 9223372036854775808
  row : Row h o.dp o.dn (fun i => .int .u8 (g i))
  by8 : ∀ x, x < o.dn → 0 ≤ g x ∧ g x < 256
  off : o.dn = 0 ∨ Off S o.dp

/-- The program's space and the document's own, of one answer. -/
structure Duo (h : Heap) (s : Nat) (c : Cfg) (n : Nat) (M : Nat → Int) (mp : Option Addr) (mc : Nat) (Z Y : Nat → Prop) : Prop where
  sp : Sp h s c n M Z
  rs : Rs h c n M mp mc Y
  dis : ∀ b, Z b → ¬ Y b

/-- The three blocks of a call's own. -/
structure Fr3 (k : Nat) (hx : Heap) (c : Cfg) (n : Nat) (mp : Option Addr) (mc : Nat) (o : OpV) : Prop where
  t : Blk hx k 4 (hpf c (n * c.size) mp mc)
  o : Blk hx (k + 1) 9 (opf o)
  r : ∃ f, Blk hx (k + 2) 4 f

section
variable {w₀ : World} {h : Heap} {s n mc : Nat} {c : Cfg} {M : Nat → Int} {mp : Option Addr} {Z Y : Nat → Prop} {K : Value → Heap → Prop} {o : OpV} {g : Nat → Int}

theorem OpV.Ok.upd {S : Nat → Prop} {S' : Nat → Prop} {h' : Heap} (H : o.Ok h g S) (hu : Upd S' h h') (hs : ∀ b, S' b → S b) : o.Ok h' g S := by
  refine { H with row := ?_ }
  rcases H.off with e | e
  · exact .inl e
  · exact H.row.upd hu fun a ha hb => e a ha (hs _ hb)

theorem Duo.upd {S : Nat → Prop} {h' : Heap} (H : Duo h s c n M mp mc Z Y) (hu : Upd S h h') (hz : ∀ b, Z b → ¬ S b) (hy : ∀ b, Y b → ¬ S b) : Duo h' s c n M mp mc Z Y :=
  ⟨H.sp.upd hu hz, H.rs.upd hu hy, H.dis⟩

theorem Fr3.upd {S : Nat → Prop} {k : Nat} {hx hy : Heap} (F : Fr3 k hx c n mp mc o) (hu : Upd S hx hy) (hs : ∀ b, S b → b < k) : Fr3 k hy c n mp mc o :=
  ⟨F.t.upd hu (fun e => by have := hs _ e; omega), F.o.upd hu (fun e => by have := hs _ e; omega), let ⟨f, B⟩ := F.r; ⟨f, B.upd hu (fun e => by have := hs _ e; omega)⟩⟩

theorem Fr3.t0 {k : Nat} {hx : Heap} (F : Fr3 k hx c n mp mc o) : cellAt hx ⟨k, 0, none⟩ = some (.int .u64 c.base) := F.t.cell (i := 0) (by omega)
theorem Fr3.t1 {k : Nat} {hx : Heap} (F : Fr3 k hx c n mp mc o) : cellAt hx ⟨k, 1, none⟩ = some (.int .u64 (c.size : Int)) := F.t.cell (i := 1) (by omega)
theorem Fr3.t2 {k : Nat} {hx : Heap} (F : Fr3 k hx c n mp mc o) : cellAt hx ⟨k, 2, none⟩ = some (.int .i64 c.limit) := F.t.cell (i := 2) (by omega)
theorem Fr3.t3 {k : Nat} {hx : Heap} (F : Fr3 k hx c n mp mc o) : cellAt hx ⟨k, 3, none⟩ = some (.slice mp (n * c.size) mc) := F.t.cell (i := 3) (by omega)
theorem Fr3.o0 {k : Nat} {hx : Heap} (F : Fr3 k hx c n mp mc o) : cellAt hx ⟨k + 1, 0, none⟩ = some (.int .i64 o.kind) := F.o.cell (i := 0) (by omega)
theorem Fr3.o1 {k : Nat} {hx : Heap} (F : Fr3 k hx c n mp mc o) : cellAt hx ⟨k + 1, 1, none⟩ = some (.int .u64 o.P) := F.o.cell (i := 1) (by omega)
theorem Fr3.o2 {k : Nat} {hx : Heap} (F : Fr3 k hx c n mp mc o) : cellAt hx ⟨k + 1, 2, none⟩ = some (.int .u64 o.Q) := F.o.cell (i := 2) (by omega)
theorem Fr3.o3 {k : Nat} {hx : Heap} (F : Fr3 k hx c n mp mc o) : cellAt hx ⟨k + 1, 3, none⟩ = some (.int .u64 o.N) := F.o.cell (i := 3) (by omega)
theorem Fr3.o4 {k : Nat} {hx : Heap} (F : Fr3 k hx c n mp mc o) : cellAt hx ⟨k + 1, 4, none⟩ = some (.bool o.A) := F.o.cell (i := 4) (by omega)
theorem Fr3.o5 {k : Nat} {hx : Heap} (F : Fr3 k hx c n mp mc o) : cellAt hx ⟨k + 1, 5, none⟩ = some (.int .u64 o.V) := F.o.cell (i := 5) (by omega)
theorem Fr3.o6 {k : Nat} {hx : Heap} (F : Fr3 k hx c n mp mc o) : cellAt hx ⟨k + 1, 6, none⟩ = some (.bool o.deny) := F.o.cell (i := 6) (by omega)
theorem Fr3.o7 {k : Nat} {hx : Heap} (F : Fr3 k hx c n mp mc o) : cellAt hx ⟨k + 1, 7, none⟩ = some (.int .i64 o.count) := F.o.cell (i := 7) (by omega)
theorem Fr3.o8 {k : Nat} {hx : Heap} (F : Fr3 k hx c n mp mc o) : cellAt hx ⟨k + 1, 8, none⟩ = some (.slice o.dp o.dn o.dc) := F.o.cell (i := 8) (by omega)

/-- The three blocks as they are laid. -/
abbrev H3 (h : Heap) (c : Cfg) (n : Nat) (mp : Option Addr) (mc : Nat) (o : OpV) : Heap :=
  Array.push (Array.push (HP h c n mp mc) (.cells #[.int .i64 o.kind, .int .u64 o.P, .int .u64 o.Q, .int .u64 o.N, .bool o.A, .int .u64 o.V, .bool o.deny, .int .i64 o.count, .slice o.dp o.dn o.dc] T.T_croftlaw2_Op))
    (.cells #[(.int .u64 (0 : Int)), (.int .u64 (0 : Int)), (.int .i64 (0 : Int)), (.slice none 0 0)] T.T_croftref2_Space)

theorem H3_upd : Upd NoB h (H3 h c n mp mc o) := (HP_upd.nx (push_upd NoB _ _) fun _ e _ => e).nx (push_upd NoB _ _) fun _ e _ => e

theorem H3_fr : Fr3 h.size (H3 h c n mp mc o) c n mp mc o := by
  have u1 : Upd NoB (HP h c n mp mc) (H3 h c n mp mc o) := (push_upd NoB _ _).nx (push_upd NoB _ _) fun _ e _ => e
  have s1 : (HP h c n mp mc).size = h.size + 1 := by simp [HP]
  refine ⟨HP_blk.upd u1 id, ?_, ?_⟩
  · have B := (Blk.new (HP h c n mp mc) #[.int .i64 o.kind, .int .u64 o.P, .int .u64 o.Q, .int .u64 o.N, .bool o.A, .int .u64 o.V, .bool o.deny, .int .i64 o.count, .slice o.dp o.dn o.dc] T.T_croftlaw2_Op).push
      (.cells #[(.int .u64 (0 : Int)), (.int .u64 (0 : Int)), (.int .i64 (0 : Int)), (.slice none 0 0)] T.T_croftref2_Space)
    rw [s1] at B
    refine B.congr fun j hj => ?_
    have : j < 9 := hj
    have : j = 0 ∨ j = 1 ∨ j = 2 ∨ j = 3 ∨ j = 4 ∨ j = 5 ∨ j = 6 ∨ j = 7 ∨ j = 8 := by omega
    rcases this with rfl | rfl | rfl | rfl | rfl | rfl | rfl | rfl | rfl <;> rfl
  · have B := Blk.new (Array.push (HP h c n mp mc) (.cells #[.int .i64 o.kind, .int .u64 o.P, .int .u64 o.Q, .int .u64 o.N, .bool o.A, .int .u64 o.V, .bool o.deny, .int .i64 o.count, .slice o.dp o.dn o.dc] T.T_croftlaw2_Op))
      #[(.int .u64 (0 : Int)), (.int .u64 (0 : Int)), (.int .i64 (0 : Int)), (.slice none 0 0)] T.T_croftref2_Space
    have s2 : (Array.push (HP h c n mp mc) (.cells #[.int .i64 o.kind, .int .u64 o.P, .int .u64 o.Q, .int .u64 o.N, .bool o.A, .int .u64 o.V, .bool o.deny, .int .i64 o.count, .slice o.dp o.dn o.dc] T.T_croftlaw2_Op)).size = h.size + 2 := by simp [HP]
    rw [s2] at B
    exact ⟨_, B⟩

theorem flag_ok {b : Bool} (hK : K (.int .i64 (if b = true then 0 else 4)) h) : CallV Try.prog w₀ F.croftlaw2_flag [.bool b] h K := by
  refine croftlaw2_flag.call ⟨fun e => ?_, fun e => ?_⟩
  · rw [if_pos e] at hK; exact hK
  · rw [if_neg (by rw [e]; simp)] at hK; exact hK

theorem ref2_Fill_int {p q v : Int} (hq0 : 0 ≤ q) (hv : 0 ≤ v ∧ v < 256) (t : There c n p q) (H : Rs h c n M mp mc Y)
    (hK : ∀ h', Upd Y h h' → Rs h' c n (fun o => if (p - c.base).toNat ≤ o ∧ o < (p - c.base).toNat + q.toNat then v else M o) mp mc Y → K (.tuple #[]) h') : CallV Try.prog w₀ F.croftref2_Fill [rsv c n mp mc, .int .u64 p, .int .u64 q, .int .u8 v] h K := by
  obtain ⟨k, rfl⟩ : ∃ k : Nat, q = k := ⟨q.toNat, by omega⟩
  have tk : Int.toNat (k : Int) = k := by omega
  rw [tk] at hK
  refine ref2_Fill_ok (off := (p - c.base).toNat) hv ?_ H hK
  rcases t with t | t
  · exact .inl (by omega)
  · exact .inr ⟨by omega, by omega⟩

theorem ref2_Read_int {p q : Int} (hq0 : 0 < q) (t : There c n p q) (H : Rs h c n M mp mc Y)
    (hK : ∀ (h' : Heap) (b : Nat), Upd NoB h h' → h.size ≤ b → Blk h' b q.toNat (fun i => .int .u8 (M ((p - c.base).toNat + i))) → K (.slice (some ⟨b, 0, none⟩) q.toNat q.toNat) h') :
    CallV Try.prog w₀ F.croftref2_Read [rsv c n mp mc, .int .u64 p, .int .u64 q] h K := by
  obtain ⟨off, rfl, eo, ho⟩ := there_off t (by omega) (by omega)
  obtain ⟨k, rfl⟩ : ∃ k : Nat, q = k := ⟨q.toNat, by omega⟩
  have tk : Int.toNat (k : Int) = k := by omega
  rw [tk] at hK ho
  rw [eo] at hK
  exact ref2_Read_ok ho H hK

theorem many_ok {p q : Int} (hp : 0 ≤ p ∧ p < 18446744073709551616) (hq : 0 ≤ q ∧ q < 18446744073709551616) (ho : o.Ok h g (fun b => Z b ∨ Y b)) (D : Duo h s c n M mp mc Z Y)
    (hK : ∀ (h' : Heap) (M' : Nat → Int), Upd (fun b => Z b ∨ Y b) h h' → Duo h' s c n M' mp mc Z Y → K (.tuple #[rsv c n mp mc, .bool true]) h') :
    CallV Try.prog w₀ F.croftlaw2_many [.pointer (some ⟨s, 0, none⟩), rsv c n mp mc, opv o, .int .u64 p, .int .u64 q] h K := by
  refine croftlaw2_many.call ?_
  unfold croftlaw2_many.vc
  simp only [Array.size_push, add_mk, Nat.zero_add]
  have hlt : ∀ b, (Z b ∨ Y b) → b < h.size := fun b e => e.elim (D.sp.lt b) (D.rs.lt b)
  have uH : Upd NoB h (H3 h c n mp mc o) := H3_upd
  have F3 : Fr3 h.size (H3 h c n mp mc o) c n mp mc o := H3_fr
  have D3 := D.upd uH (fun _ _ => id) fun _ _ => id
  have O3 := ho.upd uH fun _ e => e.elim
  -- what is left to do behind both
  have out : ∀ (hx : Heap) (M' : Nat → Int) (b : Bool), Upd (fun b => Z b ∨ Y b) (H3 h c n mp mc o) hx → Duo hx s c n M' mp mc Z Y → b = true →
      WrN hx ⟨h.size + 1 + 1, 0, none⟩ 4 ∧ ∃ z0_0 : Int, cellAt (setCs hx ⟨h.size + 1 + 1, 0, none⟩ 0 [.int .u64 c.base, .int .u64 (c.size : Int), .int .i64 c.limit, .slice mp (n * c.size) mc]) ⟨h.size + 1 + 1, 0, none⟩ = some (.int .u64 z0_0) ∧
        ∃ z0_1 : Int, cellAt (setCs hx ⟨h.size + 1 + 1, 0, none⟩ 0 [.int .u64 c.base, .int .u64 (c.size : Int), .int .i64 c.limit, .slice mp (n * c.size) mc]) ⟨h.size + 1 + 1, 1, none⟩ = some (.int .u64 z0_1) ∧
        ∃ z0_2 : Int, cellAt (setCs hx ⟨h.size + 1 + 1, 0, none⟩ 0 [.int .u64 c.base, .int .u64 (c.size : Int), .int .i64 c.limit, .slice mp (n * c.size) mc]) ⟨h.size + 1 + 1, 2, none⟩ = some (.int .i64 z0_2) ∧
        ∃ (z0_3p : Option Addr) (z0_3n : Nat) (z0_3c : Nat), cellAt (setCs hx ⟨h.size + 1 + 1, 0, none⟩ 0 [.int .u64 c.base, .int .u64 (c.size : Int), .int .i64 c.limit, .slice mp (n * c.size) mc]) ⟨h.size + 1 + 1, 3, none⟩ = some (.slice z0_3p z0_3n z0_3c) ∧
          K (.tuple #[.agg #[.int .u64 z0_0, .int .u64 z0_1, .int .i64 z0_2, .slice z0_3p z0_3n z0_3c], .bool b]) (setCs hx ⟨h.size + 1 + 1, 0, none⟩ 0 [.int .u64 c.base, .int .u64 (c.size : Int), .int .i64 c.limit, .slice mp (n * c.size) mc]) := by
    intro hx M' b ux Dx hb
    subst hb
    obtain ⟨f, Br⟩ := (F3.upd ux hlt).r
    obtain ⟨r1, r2, r3, r4, r5, r6⟩ := res4 Br (.int .u64 c.base) (.int .u64 (c.size : Int)) (.int .i64 c.limit) (.slice mp (n * c.size) mc)
    refine ⟨r1, _, r2, _, r3, _, r4, _, _, _, r5, hK _ M' ?_ (Dx.upd r6 (fun b hb e => ?_) (fun b hb e => ?_))⟩
    · exact Upd.trans (Upd.trans uH ux (fun b e => e.elim) (fun b e _ => e)) r6 (fun b e => e) (fun b e hb => by omega)
    · have := hlt b (.inl hb); omega
    · have := hlt b (.inr hb); omega
  have bad : ∀ {X : Prop}, (false : Bool) = true → X := fun e => by cases e
  refine ⟨_, F3.t0, _, F3.t1, _, F3.t2, _, _, _, F3.t3, _, F3.o3, ?_⟩
  refine ref2_There_ok hp ho.N D3.rs fun h23 u23 => ⟨_, rfl, _, (F3.upd u23 fun _ e => e.elim).o0, ?_⟩
  have F23 := F3.upd u23 fun _ e => e.elim
  have D23 := D3.upd u23 (fun _ _ => id) fun _ _ => id
  have v23 : Upd (fun b => Z b ∨ Y b) (H3 h c n mp mc o) h23 := u23.mono fun _ e _ => e.elim
  have O23 := O3.upd u23 fun _ e => e.elim
  -- flag and the end
  have last : ∀ (hx : Heap) (M' : Nat → Int) (t : Prop) [Decidable t], Upd (fun b => Z b ∨ Y b) (H3 h c n mp mc o) hx → Duo hx s c n M' mp mc Z Y →
      CallV Try.prog w₀ F.croftlaw2_flag [.bool (decide t)] hx fun v52 h52 => ∃ r52 : Int, v52 = .int .i64 r52 ∧ h52 = hx ∧ ((if t then (0 : Int) else 4) == r52) = true := by
    intro hx M' t _ ux Dx
    refine flag_ok ⟨_, rfl, rfl, ?_⟩
    by_cases ht : t <;> simp [ht]
  have six : ∀ (J6 : List Value → Heap → Prop) (hx : Heap) (M' : Nat → Int) (r : Int) (t : Prop) [Decidable t], Upd (fun b => Z b ∨ Y b) (H3 h c n mp mc o) hx → Duo hx s c n M' mp mc Z Y → r = (if t then 0 else 4) →
      (∀ (x6 : Addr) (x10 : Addr) (x12 : Bool) (x13 : Int) (hJ6 : Heap), (∃ n49_0 : Int, cellAt hJ6 x6 = some (.int .u64 n49_0) ∧ ∃ n49_1 : Int, cellAt hJ6 (x6.add 1) = some (.int .u64 n49_1) ∧ ∃ n49_2 : Int, cellAt hJ6 (x6.add 2) = some (.int .i64 n49_2) ∧ ∃ n49_3p : Option Addr, ∃ n49_3n : Nat, ∃ n49_3c : Nat, cellAt hJ6 (x6.add 3) = some (.slice n49_3p n49_3n n49_3c) ∧ CallV Try.prog w₀ F.croftlaw2_flag [(.bool x12)] hJ6 fun (v52 : Value) (h52 : Heap) => ∃ r52 : Int, v52 = (.int .i64 r52) ∧ (cellAt h52 x6 = some (.int .u64 n49_0) ∧ cellAt h52 (x6.add 1) = some (.int .u64 n49_1) ∧ cellAt h52 (x6.add 2) = some (.int .i64 n49_2) ∧ cellAt h52 (x6.add 3) = some (.slice n49_3p n49_3n n49_3c) ∧ (WrN h52 x10 4 ∧ (∃ z0_0 : Int, cellAt (setCs h52 x10 0 [(.int .u64 n49_0), (.int .u64 n49_1), (.int .i64 n49_2), (.slice n49_3p n49_3n n49_3c)]) x10 = some (.int .u64 z0_0) ∧ ∃ z0_1 : Int, cellAt (setCs h52 x10 0 [(.int .u64 n49_0), (.int .u64 n49_1), (.int .i64 n49_2), (.slice n49_3p n49_3n n49_3c)]) (x10.add 1) = some (.int .u64 z0_1) ∧ ∃ z0_2 : Int, cellAt (setCs h52 x10 0 [(.int .u64 n49_0), (.int .u64 n49_1), (.int .i64 n49_2), (.slice n49_3p n49_3n n49_3c)]) (x10.add 2) = some (.int .i64 z0_2) ∧ ∃ z0_3p : Option Addr, ∃ z0_3n : Nat, ∃ z0_3c : Nat, cellAt (setCs h52 x10 0 [(.int .u64 n49_0), (.int .u64 n49_1), (.int .i64 n49_2), (.slice n49_3p n49_3n n49_3c)]) (x10.add 3) = some (.slice z0_3p z0_3n z0_3c) ∧ K (.tuple #[(.agg #[(.int .u64 z0_0), (.int .u64 z0_1), (.int .i64 z0_2), (.slice z0_3p z0_3n z0_3c)]), (.bool (x13 == r52))]) (setCs h52 x10 0 [(.int .u64 n49_0), (.int .u64 n49_1), (.int .i64 n49_2), (.slice n49_3p n49_3n n49_3c)]))))) →
        J6 [(.pointer (some x6)), (.pointer (some x10)), (.bool x12), (.int .i64 x13)] hJ6) →
      J6 [.pointer (some ⟨h.size, 0, none⟩), .pointer (some ⟨h.size + 1 + 1, 0, none⟩), .bool (decide t), .int .i64 r] hx := by
    intro J6 hx M' r t _ ux Dx hr k6
    apply k6
    have Fx := F3.upd ux hlt
    refine ⟨_, Fx.t0, _, by rw [add_mk]; exact Fx.t1, _, by rw [add_mk]; exact Fx.t2, _, _, _, by rw [add_mk]; exact Fx.t3, ?_⟩
    refine (last hx M' t ux Dx).mono ?_
    rintro v52 h52 ⟨r52, rfl, rfl, hr52⟩
    simp only [add_mk, Nat.zero_add]
    refine ⟨_, rfl, Fx.t0, Fx.t1, Fx.t2, Fx.t3, out h52 M' _ ux Dx (by rw [hr]; exact hr52)⟩
  have jn : ∀ {h34 : Heap} {M34 : Nat → Int}, Upd Z h23 h34 → Sp h34 s c n M34 Z → Upd (fun b => Z b ∨ Y b) (H3 h c n mp mc o) h34 := fun u _ => Upd.trans v23 u (fun b e => e) (fun b e _ => .inl e)
  have hlen := D.sp.good.len D.sp.nl
  have small : ∀ x, There c n x o.N → o.N ≤ 4194304 := fun x t => by rcases t with t | t <;> omega
  by_cases k7 : o.kind = 7
  · refine iT (by simp [k7]) ⟨_, F23.o3, _, F23.o5, ?_⟩
    have ew : 0 ≤ IntKind.wrap .u8 o.V ∧ IntKind.wrap .u8 o.V < 256 := by rw [IntKind.wrap_u8]; omega
    refine mem_Fill_ok hp ho.N ew D23.sp (fun t h34 u34 S34 => ⟨_, rfl, ?_⟩) (fun t h34 u34 => ⟨_, rfl, ?_⟩)
    · intro J6 k6 J9 k9
      have v34 := jn u34 S34
      have F34 := F3.upd v34 hlt
      have R34 := D23.rs.upd u34 fun b hb hb' => D.dis b hb' hb
      refine qT (by simp [t]) ⟨_, F34.o3, k9 _ _ ?_⟩
      by_cases hN : o.N > 0
      · refine iT (by simp [hN]) ⟨_, F34.t0, _, F34.t1, _, F34.t2, _, _, _, F34.t3, _, F34.o3, _, F34.o5, ?_⟩
        refine ref2_Fill_int ho.N.1 ew t R34 fun h48 u48 R48 => ⟨rfl, ?_⟩
        have v48 : Upd (fun b => Z b ∨ Y b) (H3 h c n mp mc o) h48 := Upd.trans v34 u48 (fun b e => e) (fun b e _ => .inr e)
        exact six J6 h48 _ 0 _ v48 ⟨S34.upd u48 fun b hb hb' => D.dis b hb hb', R48, D.dis⟩ (by rw [if_pos t]) k6
      · refine iF (by simpa using hN) ?_
        have hN0 : o.N.toNat = 0 := by omega
        refine six J6 h34 _ 0 _ v34 ⟨S34, R34.congr fun x hx => ?_, D.dis⟩ (by rw [if_pos t]) k6
        rw [hN0, if_neg (by omega)]
    · intro J6 k6 J9 k9
      have v34 : Upd (fun b => Z b ∨ Y b) (H3 h c n mp mc o) h34 := Upd.trans v23 u34 (fun b e => e) (fun b e _ => e.elim)
      exact qF' (by simp [t]) (k9 _ _ (iF rfl (six J6 h34 _ 4 _ v34 (D23.upd u34 (fun _ _ => id) fun _ _ => id) (by rw [if_neg t]) k6)))
  refine iF (by simpa using k7) ⟨_, F23.o0, ?_⟩
  by_cases k8 : o.kind = 8
  · refine iT (by simp [k8]) ?_
    intro J11 k11
    have cp : ∀ hx : Heap, Upd NoB h23 hx → J11 (decide (There c n p o.N ∧ There c n q o.N)) hx := by
      intro hx ux
      have vx : Upd (fun b => Z b ∨ Y b) (H3 h c n mp mc o) hx := Upd.trans v23 ux (fun b e => e) (fun b e _ => e.elim)
      have Fx := F3.upd vx hlt
      have Dx := D23.upd ux (fun _ _ => id) fun _ _ => id
      refine k11 _ _ ⟨_, Fx.o3, ?_⟩
      refine mem_Copy_ok hp hq ho.N Dx.sp (fun t t' h70 u70 S70 => ⟨_, rfl, ?_⟩) (fun t h70 u70 => ⟨_, rfl, ?_⟩)
      · intro J13 k13 J16 k16
        have v70 : Upd (fun b => Z b ∨ Y b) (H3 h c n mp mc o) h70 := Upd.trans vx u70 (fun b e => e) (fun b e _ => .inl e)
        have F70 := F3.upd v70 hlt
        have R70 := Dx.rs.upd u70 fun b hb hb' => D.dis b hb' hb
        have tt : There c n p o.N ∧ There c n q o.N := ⟨t, t'⟩
        refine qT (by simp [tt]) ⟨_, F70.o3, k16 _ _ ?_⟩
        by_cases hN : o.N > 0
        · refine iT (by simp [hN]) ⟨_, F70.t0, _, F70.t1, _, F70.t2, _, _, _, F70.t3, _, F70.t0, _, F70.t1, _, F70.t2, _, _, _, F70.t3, _, F70.o3, ?_⟩
          refine ref2_Read_int hN t' R70 fun h83 br u83 hbr B83 => ⟨_, _, _, rfl, ?_⟩
          have v83 : Upd (fun b => Z b ∨ Y b) (H3 h c n mp mc o) h83 := Upd.trans v70 u83 (fun b e => e) (fun b e _ => e.elim)
          have F83 := F3.upd v83 hlt
          refine ⟨F83.t0, F83.t1, F83.t2, F83.t3, ?_⟩
          have R83 := R70.upd u83 fun _ _ => id
          have brY : ¬ Y br := fun hh => absurd (R70.lt br hh) (by omega)
          refine ref2_Write_ok (off := (p - c.base).toNat) (g := fun i => M ((q - c.base).toNat + i)) ((B83.row 0 o.N.toNat (by omega)).congr fun i hi => by rw [Nat.zero_add]) (fun x hx => D.rs.by8 _ ?_) (.inr fun a ha => by cases ha; exact brY) (by have := small _ t; omega) ?_ R83 fun h84 u84 R84 => ⟨rfl, ?_⟩
          · obtain ⟨off, _, eo, ho'⟩ := there_off t' (by omega) (by omega)
            rw [eo]; omega
          · rcases t with t | t
            · omega
            · exact .inr ⟨by omega, by omega⟩
          · have v84 : Upd (fun b => Z b ∨ Y b) (H3 h c n mp mc o) h84 := Upd.trans v83 u84 (fun b e => e) (fun b e _ => .inr e)
            exact six J13 h84 _ 0 _ v84 ⟨(S70.upd u83 fun _ _ => id).upd u84 fun b hb hb' => D.dis b hb hb', R84, D.dis⟩ (by rw [if_pos tt]) k13
        · refine iF (by simpa using hN) ?_
          have hN0 : o.N.toNat = 0 := by omega
          refine six J13 h70 _ 0 _ v70 ⟨S70, R70.congr fun x hx => ?_, D.dis⟩ (by rw [if_pos tt]) k13
          rw [hN0, if_neg (by omega)]
      · intro J13 k13 J16 k16
        have v70 : Upd (fun b => Z b ∨ Y b) (H3 h c n mp mc o) h70 := Upd.trans vx u70 (fun b e => e) (fun b e _ => e.elim)
        exact qF' (by simpa using t) (k16 _ _ (iF rfl (six J13 h70 _ 4 _ v70 (Dx.upd u70 (fun _ _ => id) fun _ _ => id) (by rw [if_neg t]) k13)))
    by_cases t : There c n p o.N
    · refine qT (by simp [t]) ⟨_, F23.t0, _, F23.t1, _, F23.t2, _, _, _, F23.t3, _, F23.o3, ?_⟩
      refine ref2_There_ok hq ho.N D23.rs fun h63 u63 => ⟨_, rfl, ?_⟩
      have e : decide (There c n q o.N) = decide (There c n p o.N ∧ There c n q o.N) := by simp [t]
      rw [e]
      exact cp h63 u63
    · refine qF' (by simp [t]) ?_
      have e : false = decide (There c n p o.N ∧ There c n q o.N) := by simp [t]
      rw [e]
      exact cp h23 (Upd.refl _ _)
  refine iF (by simpa using k8) ⟨_, F23.o0, ?_⟩
  by_cases k9 : o.kind = 9
  · refine iT (by simp [k9]) ⟨_, F23.o3, ?_⟩
    refine mem_Read_ok hp ho.N D23.sp (fun t h98 bb u98 hbb B98 => ⟨_, _, _, _, rfl, ?_⟩) (fun t h98 u98 => ⟨_, _, _, _, rfl, ?_⟩)
    · have v98 : Upd (fun b => Z b ∨ Y b) (H3 h c n mp mc o) h98 := Upd.trans v23 u98 (fun b e => e) (fun b e _ => e.elim)
      have F98 := F3.upd v98 hlt
      have D98 := D23.upd u98 (fun _ _ => id) fun _ _ => id
      refine iF (by simp [t]) ⟨_, F98.o3, ?_⟩
      by_cases hN : o.N = 0
      · refine iT (by simp [hN]) ⟨_, F98.t0, _, F98.t1, _, F98.t2, _, _, _, F98.t3, ?_⟩
        intro J k
        refine qT rfl (k _ _ (out h98 M _ v98 D98 ?_))
        rw [hN]; rfl
      · refine iF (by simpa using hN) ⟨_, F98.t0, _, F98.t1, _, F98.t2, _, _, _, F98.t3, ?_⟩
        intro J k
        refine qT rfl ⟨_, F98.t0, _, F98.t1, _, F98.t2, _, _, _, F98.t3, _, F98.o3, ?_⟩
        refine ref2_Read_int (by have := ho.N.1; omega) t D98.rs fun h131 br u131 hbr B131 => ⟨_, _, _, rfl, ?_⟩
        have v131 : Upd (fun b => Z b ∨ Y b) (H3 h c n mp mc o) h131 := Upd.trans v98 u131 (fun b e => e) (fun b e _ => e.elim)
        have F131 := F3.upd v131 hlt
        have D131 := D98.upd u131 (fun _ _ => id) fun _ _ => id
        refine ⟨F131.t0, F131.t1, F131.t2, F131.t3, ?_⟩
        refine Same_true (by have := small _ t; omega) (((B98.upd u131 id).row 0 o.N.toNat (by omega)).congr fun i hi => by rw [Nat.zero_add]) ((B131.row 0 o.N.toNat (by omega)).congr fun i hi => by rw [Nat.zero_add]) (fun i hi => rfl) ⟨_, rfl, F131.t0, F131.t1, F131.t2, F131.t3, k _ _ (out h131 M _ v131 D131 rfl)⟩
    · have v98 : Upd (fun b => Z b ∨ Y b) (H3 h c n mp mc o) h98 := Upd.trans v23 u98 (fun b e => e) (fun b e _ => e.elim)
      have F98 := F3.upd v98 hlt
      have D98 := D23.upd u98 (fun _ _ => id) fun _ _ => id
      refine iT (by simp [t]) ⟨_, F98.t0, _, F98.t1, _, F98.t2, _, _, _, F98.t3, ?_⟩
      intro J k
      exact qT rfl (k _ _ (out h98 M _ v98 D98 rfl))
  refine iF (by simpa using k9) ⟨_, F23.t0, _, F23.t1, _, F23.t2, _, _, _, F23.t3, _, _, _, F23.o8, ?_⟩
  have hdc := ho.dc
  have el : IntKind.wrap .u64 ((o.dn : Nat) : Int) = o.dn := by rw [IntKind.wrap_u64]; omega
  rw [el]
  refine ref2_There_ok hp (by omega) D23.rs fun h140 u140 => ⟨_, rfl, ?_⟩
  have v140 : Upd (fun b => Z b ∨ Y b) (H3 h c n mp mc o) h140 := Upd.trans v23 u140 (fun b e => e) (fun b e _ => e.elim)
  have F140 := F3.upd v140 hlt
  have D140 := D23.upd u140 (fun _ _ => id) fun _ _ => id
  have O140 := O23.upd u140 fun _ e => e.elim
  refine ⟨_, _, _, F140.o8, ?_⟩
  have offZ : o.dn = 0 ∨ Off Z o.dp := O140.off.imp id fun e a ha hb => e a ha (.inl hb)
  have offY : o.dn = 0 ∨ Off Y o.dp := O140.off.imp id fun e a ha hb => e a ha (.inr hb)
  refine mem_Write_ok hp (by omega) hdc.1 D140.sp O140.row O140.by8 offZ (fun t h145 u145 S145 => ⟨_, rfl, ?_⟩) (fun t h145 u145 => ⟨_, rfl, ?_⟩)
  · intro J31 k31 J34 k34
    have v145 : Upd (fun b => Z b ∨ Y b) (H3 h c n mp mc o) h145 := Upd.trans v140 u145 (fun b e => e) (fun b e _ => .inl e)
    have F145 := F3.upd v145 hlt
    have R145 := D140.rs.upd u145 fun b hb hb' => D.dis b hb' hb
    have O145 := O140.upd u145 fun _ e => .inl e
    refine qT (by simp [t]) ⟨_, _, _, F145.o8, k34 _ _ ?_⟩
    by_cases hN : o.dn = 0
    · refine iF (by simp [hN]) ?_
      refine six J31 h145 _ 0 _ v145 ⟨S145, R145.congr fun x hx => ?_, D.dis⟩ (by rw [if_pos t]) k31
      rw [if_neg (by omega)]
    · refine iT (by simp; omega) ⟨_, F145.t0, _, F145.t1, _, F145.t2, _, _, _, F145.t3, _, _, _, F145.o8, ?_⟩
      refine ref2_Write_ok (off := (p - c.base).toNat) O145.row O145.by8 offY (by omega) ?_ R145 fun h157 u157 R157 => ⟨rfl, ?_⟩
      · rcases t with t | t
        · omega
        · exact .inr ⟨by omega, by omega⟩
      · have v157 : Upd (fun b => Z b ∨ Y b) (H3 h c n mp mc o) h157 := Upd.trans v145 u157 (fun b e => e) (fun b e _ => .inr e)
        exact six J31 h157 _ 0 _ v157 ⟨S145.upd u157 fun b hb hb' => D.dis b hb hb', R157, D.dis⟩ (by rw [if_pos t]) k31
  · intro J31 k31 J34 k34
    have v145 : Upd (fun b => Z b ∨ Y b) (H3 h c n mp mc o) h145 := Upd.trans v140 u145 (fun b e => e) (fun b e _ => e.elim)
    exact qF' (by simp [t]) (k34 _ _ (iF rfl (six J31 h145 _ 4 _ v145 (D140.upd u145 (fun _ _ => id) fun _ _ => id) (by rw [if_neg t]) k31)))

end
end Go.Proofs.Ytpninapdjcggoaa
