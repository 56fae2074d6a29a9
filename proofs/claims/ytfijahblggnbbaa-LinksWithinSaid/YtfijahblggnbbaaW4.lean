/- mem: bytes found, read and written. No condition. -/
import Derived.Test.YtfijahblggnbbaaW3
set_option linter.unusedSimpArgs false
set_option linter.unusedVariables false
namespace Go.Proofs.Ytfijahblggnbbaa
open Go.V Classical

section
variable {w₀ : World} {h : Heap} {s n : Nat} {c : Cfg} {M : Nat → Int} {Z : Nat → Prop} {K : Value → Heap → Prop}

/-- q bytes from p on are there. -/
def There (c : Cfg) (n : Nat) (p q : Int) : Prop := q = 0 ∨ (c.base ≤ p ∧ p - c.base + q ≤ (n * c.size : Nat))

theorem mem_look_ok {p q : Int} {QP : List PanicEntry → Heap → Prop} (hp : 0 ≤ p ∧ p < 18446744073709551616) (hq : 0 ≤ q ∧ q < 18446744073709551616) (H : Sp h s c n M Z)
    (hy : There c n p q → K (.tuple #[]) h)
    (hn : ¬ There c n p q → QP [⟨.iface T.T_mem_fault (.agg #[.int .i64 4]), false, false⟩] h) :
    CallsE Try.prog w₀ F.mem_Space_look #[.pointer (some ⟨s, 0, none⟩), .int .u64 p, .int .u64 q] h (callPost K QP) := by
  refine mem_Space_look.call ?_
  have h1 := H.base
  have hl := H.good.len H.nl
  have hb0 := H.good.b0
  unfold mem_Space_look.vc
  have fin : ∀ b : Bool, (b = false ↔ There c n p q) → (b = true → callPost K QP (.panicked [⟨(.iface T.T_mem_fault (.agg #[(.int .i64 (4 : Int))])), false, false⟩]) h) ∧ (b = false → callPost K QP (.returned (.tuple #[])) h) := by
    intro b hb
    refine ⟨fun e => hn fun t => ?_, fun e => hy (hb.1 e)⟩
    rw [hb.2 t] at e; cases e
  have bad : ¬ There c n p q → (true = false ↔ There c n p q) := fun hh => ⟨fun e => (by cases e), fun t => (hh t).elim⟩
  intro J1 k1
  refine ⟨fun e => ⟨_, rfl, _, h1, ?_⟩, fun e => ?_⟩
  · simp at e
    intro J3 k3
    refine ⟨fun e2 => ?_, fun e2 => ?_⟩
    · refine (mem_End_ok H ⟨_, rfl, k3 _ _ ?_⟩).toE
      intro J4 k4
      refine ⟨fun e3 => ?_, fun e3 => ?_⟩
      · refine (mem_End_ok H ⟨_, rfl, k4 _ _ (k1 _ _ (fin _ ?_))⟩).toE
        simp at e2 e3
        have : IntKind.u64.wrap (c.base + (n * c.size : Nat) - p) = c.base + (n * c.size : Nat) - p := by rw [IntKind.wrap_u64]; omega
        rw [this]
        simp only [There, decide_eq_false_iff_not]
        omega
      · refine k4 _ _ (k1 _ _ (fin true (bad fun t => ?_)))
        simp at e2 e3
        simp only [There] at t
        omega
    · refine k3 _ _ fun J4 k4 => ?_
      refine ⟨fun e3 => (by cases e3), fun _ => k4 _ _ (k1 _ _ (fin true (bad fun t => ?_)))⟩
      simp at e2
      simp only [There] at t
      omega
  · simp at e
    exact k1 _ _ (fin false ⟨fun _ => .inl e, fun _ => rfl⟩)

theorem off_nums (g : c.Good) {off : Nat} (ho : (off : Int) ≤ 9223372036854775808) :
    IntKind.u64.wrap (c.base + (off : Int) - c.base) = (off : Int) ∧ IntKind.u64.wrap (Int.tdiv (off : Int) (c.size : Int)) = ((off / c.size : Nat) : Int) ∧ Int.tmod (off : Int) (c.size : Int) = ((off % c.size : Nat) : Int) := by
  have hs := g.size_pos
  refine ⟨by rw [IntKind.wrap_u64]; omega, ?_, ?_⟩
  · rw [Int.tdiv_eq_ediv_of_nonneg (by omega), ← Int.natCast_ediv, IntKind.wrap_u64]
    have h1 : off / c.size ≤ off := Nat.div_le_self _ _
    generalize off / c.size = d at *
    omega
  · rw [Int.tmod_eq_emod_of_nonneg (by omega), ← Int.natCast_emod]

theorem off_in (g : c.Good) {off n : Nat} (ho : off < n * c.size) : off / c.size < n ∧ off % c.size < c.size ∧ off / c.size * c.size + off % c.size = off := by
  have hs := g.size_pos
  refine ⟨Nat.div_lt_of_lt_mul (by rw [Nat.mul_comm]; exact ho), Nat.mod_lt _ (by omega), ?_⟩
  have := Nat.div_add_mod off c.size
  rw [Nat.mul_comm] at this
  exact this

theorem mem_byteAt_ok {off : Nat} (H : Sp h s c n M Z) (ho : off < n * c.size)
    (hK : ∀ a : Addr, Z a.block → cellAt h a = some (.int .u8 (M off)) → Wr h a → (∀ v : Int, 0 ≤ v → v < 256 → Sp (setC h a (.int .u8 v)) s c n (fun o => if o = off then v else M o) Z) → K (.pointer (some a)) h) :
    CallV Try.prog w₀ F.mem_Space_byteAt [.pointer (some ⟨s, 0, none⟩), .int .u64 (c.base + (off : Int))] h K := by
  refine mem_Space_byteAt.call ?_
  have h1 := H.base
  have h3 := H.size
  have hl := H.good.len H.nl
  have hS := H
  obtain ⟨w, H⟩ := H
  have h4 : cellAt h ⟨s, 4, none⟩ = some (.slice w.pp n w.pc) := H.st.cell (i := 4) (by omega)
  obtain ⟨o1, o2, o3⟩ := off_nums H.good (off := off) (by omega)
  obtain ⟨i1, i2, i3⟩ := off_in H.good ho
  have hs := H.good.size_pos
  unfold mem_Space_byteAt.vc
  simp only [jor, jand, cellAt_new, add_mk, List.getElem?_toArray, Nat.zero_add, List.getElem?_cons_zero, List.getElem?_cons_succ, Option.some.injEq, Value.int.injEq, Value.bool.injEq, Value.pointer.injEq, Value.slice.injEq, true_and, and_true, exists_eq_left', exists_eq', and_assoc, exists_and_left, h1, h3, h4, o1, o2, o3]
  generalize hi : off / c.size = i at *
  generalize hj : off % c.size = j at *
  have t1 : Int.toNat (i : Int) = i := by omega
  have t2 : Int.toNat (j : Int) = j := by omega
  rw [t1, t2]
  rcases H.ps with ⟨e3, e4, e5⟩ | ⟨e3, e4, e5, e6, e7⟩
  · omega
  have hpi := H.pf i i1
  have hc : cellAt h ⟨w.pb, 0 + i * 1, none⟩ = some (.slice (some ⟨w.rb i, 0, none⟩) c.size c.size) := by
    rw [← hpi, Nat.zero_add, Nat.mul_one]; exact e4.cell (by omega)
  have hr := H.rs i i1
  have hF := H.rF i i1
  refine ⟨by omega, ⟨w.pb, 0, none⟩, e3, by omega, by omega, _, _, _, by rw [add_mk]; exact hc, by omega, ⟨w.rb i, 0, none⟩, rfl, by omega, by omega, ?_⟩
  rw [add_mk, Nat.zero_add, Nat.mul_one]
  have hM : M off = M (i * c.size + j) := by rw [i3]
  refine hK _ hF.1 (by rw [hM]; exact hr.cell i2) (hr.wr i2) fun v v0 v1 => ?_
  refine ⟨w, { H with st := H.st.set_ne (a := ⟨w.rb i, j, none⟩) (Ne.symm hF.2.1) _, ps := .inr ⟨e3, e4.set_ne (a := ⟨w.rb i, j, none⟩) (Ne.symm hF.2.2) _, e5, e6, e7⟩, rs := fun k hk => ?_, lt := fun b hb => by rw [setC_size]; exact H.lt b hb, by8 := fun o ho => ?_ }⟩
  · by_cases hki : k = i
    · subst hki
      refine (hr.set j _).congr fun x hx => ?_
      by_cases hxj : x = j
      · subst hxj; rw [if_pos rfl, if_pos i3]
      · rw [if_neg hxj, if_neg (by omega)]
    · refine ((H.rs k hk).set_ne (a := ⟨w.rb i, j, none⟩) (fun e => hki (H.inj k hk i i1 e)) _).congr fun x hx => ?_
      rw [if_neg]
      intro e
      have e' : (k * c.size + x) / c.size = off / c.size := by rw [e]
      rw [hi, Nat.mul_comm, Nat.mul_add_div (by omega), Nat.div_eq_of_lt hx, Nat.add_zero] at e'
      exact hki e'
  · split
    · exact ⟨v0, v1⟩
    · exact H.by8 o ho

theorem mem_get_ok {p : Int} {bb o m cap N off : Nat} {f : Nat → Value} {q : Option Addr} (H : Sp h s c n M Z) (hb : Blk h bb N f) (hbZ : ¬ Z bb) (hm : o + m ≤ N) (hc : m ≤ cap)
    (hp : m = 0 ∨ (p = c.base + (off : Int) ∧ off + m ≤ n * c.size)) (hq : m = 0 ∨ q = some ⟨bb, o, none⟩)
    (hK : ∀ h' : Heap, Upd (fun x => x = bb) h h' → h'.size = h.size → Blk h' bb N (fun j => if o ≤ j ∧ j < o + m then .int .u8 (M (off + (j - o))) else f j) → K (.tuple #[]) h') :
    CallV Try.prog w₀ F.mem_Space_get [.pointer (some ⟨s, 0, none⟩), .int .u64 p, .slice q m cap] h K := by
  refine mem_Space_get.call ?_
  unfold mem_Space_get.vc
  intro L hL
  induction m using Nat.strongRecOn generalizing h p o cap q off f with
  | ind m ih =>
    apply hL
    refine ⟨fun e => ?_, fun e => ?_⟩
    case refine_2 =>
      simp at e
      subst e
      exact hK h (Upd.refl _ _) rfl (hb.congr fun j hj => by rw [if_neg (by omega)])
    simp at e
    rcases hp with hp | ⟨rfl, hoff⟩
    · omega
    rcases hq with hq | rfl
    · omega
    have h1 := H.base
    have h3 := H.size
    have hl := H.good.len H.nl
    have hS := H
    obtain ⟨w, H⟩ := H
    have h4 : cellAt h ⟨s, 4, none⟩ = some (.slice w.pp n w.pc) := H.st.cell (i := 4) (by omega)
    obtain ⟨o1, o2, o3⟩ := off_nums H.good (off := off) (by omega)
    obtain ⟨i1, i2, i3⟩ := off_in H.good (off := off) (n := n) (by omega)
    have hs := H.good.size_pos
    simp only [jor, jand, cellAt_new, add_mk, List.getElem?_toArray, Nat.zero_add, List.getElem?_cons_zero, List.getElem?_cons_succ, Option.some.injEq, Value.int.injEq, Value.bool.injEq, Value.pointer.injEq, Value.slice.injEq, true_and, and_true, exists_eq_left', exists_eq', and_assoc, exists_and_left, h1, h3, h4, o1, o2, o3]
    generalize hi : off / c.size = i at *
    generalize hj : off % c.size = j at *
    have t1 : Int.toNat (i : Int) = i := by omega
    have t2 : Int.toNat (j : Int) = j := by omega
    have t3 : Int.toNat (c.size : Int) = c.size := by omega
    have t4 : Int.toNat (m : Int) = m := by omega
    rw [t1, t2, t4]
    rcases H.ps with ⟨e3, e4, e5⟩ | ⟨e3, e4, e5, e6, e7⟩
    · omega
    have hpi := H.pf i i1
    have hcl : cellAt h ⟨w.pb, 0 + i * 1, none⟩ = some (.slice (some ⟨w.rb i, 0, none⟩) c.size c.size) := by
      rw [← hpi, Nat.zero_add, Nat.mul_one]; exact e4.cell (by omega)
    have hr := H.rs i i1
    have hF := H.rF i i1
    refine ⟨by omega, ⟨w.pb, 0, none⟩, e3, by omega, by omega, _, _, _, by rw [add_mk]; exact hcl, by omega, by omega, by omega, by omega, ?_⟩
    rw [t3, if_neg (by omega)]
    obtain ⟨t, ht⟩ : ∃ t, t = Nat.min (c.size - j) m := ⟨_, rfl⟩
    have ht0 : 0 < t := by rw [ht]; exact Nat.lt_min.2 ⟨by omega, by omega⟩
    have ht1 : t ≤ c.size - j := by rw [ht]; exact Nat.min_le_left _ _
    have ht2 : t ≤ m := by rw [ht]; exact Nat.min_le_right _ _
    have t5 : Int.toNat ((Nat.min (c.size - j) m : Nat) : Int) = t := by rw [ht]; omega
    have t6 : IntKind.u64.wrap (c.base + (off : Int) + IntKind.u64.wrap ((Nat.min (c.size - j) m : Nat) : Int)) = c.base + ((off + t : Nat) : Int) := by
      rw [← ht, IntKind.wrap_u64 (t : Int), IntKind.wrap_u64]
      have := H.good.b0
      omega
    rw [t5, t6, ← ht]
    have rowS : Row h (some ⟨w.rb i, j, none⟩) t (fun x => .int .u8 (M (off + x))) := by
      refine (hr.row j t (by omega)).congr fun x hx => ?_
      have : i * c.size + (j + x) = off + x := by omega
      simp only [this]
    have hsrc : Option.map (fun b => Addr.add b (j * 1)) (some (⟨w.rb i, 0, none⟩ : Addr)) = some ⟨w.rb i, j, none⟩ := by simp
    rw [hsrc]
    refine ⟨lst t (fun x => .int .u8 (M (off + x))), ⟨by simp [← ht], rowS.rowAt, ?_, ?_⟩, by omega, by omega, by omega, ?_⟩
    · intro v hv
      simp [lst] at hv
      obtain ⟨x, _, rfl⟩ := hv
      rfl
    · intro a ha x hx
      cases ha
      rw [add_mk]
      simp at hx
      exact hb.wr (by omega)
    let h2 : Heap := setCs h ⟨bb, o, none⟩ 0 (lst t (fun x => .int .u8 (M (off + x))))
    have u2 : Upd (fun b => b = bb) h h2 := setCs_upd _ _ _ _
    have s2 : h2.size = h.size := setCs_size _ _ _ _
    have b2 : Blk h2 bb N (fun k => if o ≤ k ∧ k < o + t then .int .u8 (M (off + (k - o))) else f k) := by
      refine (hb.sets _ o 0).congr fun k hk => ?_
      rw [lst_length, Nat.add_zero]
      split
      · rw [lst_getD (by omega)]
      · rfl
    refine ih (m - t) (by omega) (h := h2) (o := o + t) (off := off + t) (hS.upd u2 fun b hb' e => hbZ (e ▸ hb')) b2 (by omega) (by omega) (.inr ⟨rfl, by omega⟩) ?_ ?_
    · by_cases hct : cap = t
      · exact .inl (by omega)
      · refine .inr ?_
        rw [if_neg hct]
        simp
    · intro h' u' s' b'
      refine hK h' (Upd.trans u2 u' (fun b e => e) (fun b e _ => e)) (by omega) (b'.congr fun k hk => ?_)
      by_cases c1 : o + t ≤ k ∧ k < o + t + (m - t)
      · rw [if_pos c1, if_pos (by omega)]
        congr 2; omega
      · rw [if_neg c1]
        by_cases c2 : o ≤ k ∧ k < o + t
        · rw [if_pos c2, if_pos (by omega)]
        · rw [if_neg c2, if_neg (by omega)]

/-- Bytes of a region written. -/
theorem SpX.sets {w : SpW} (H : SpX h s c n M Z w) {i j t : Nat} (hi : i < n) (ht : j + t ≤ c.size) (g : Nat → Int) (hg : ∀ x, x < t → 0 ≤ g x ∧ g x < 256) :
    Sp (setCs h ⟨w.rb i, j, none⟩ 0 (lst t fun x => .int .u8 (g x))) s c n (fun o => if i * c.size + j ≤ o ∧ o < i * c.size + j + t then g (o - (i * c.size + j)) else M o) Z := by
  have hF := H.rF i hi
  have hs := H.good.size_pos
  have u : Upd (fun b => b = w.rb i) h (setCs h ⟨w.rb i, j, none⟩ 0 (lst t fun x => .int .u8 (g x))) := setCs_upd _ _ _ _
  refine ⟨w, { H with st := H.st.upd u (Ne.symm hF.2.1), ps := ?_, rs := fun k hk => ?_, lt := fun b hb => by rw [setCs_size]; exact H.lt b hb, by8 := fun o ho => ?_ }⟩
  · rcases H.ps with e | ⟨e1, e2, e3⟩
    · exact .inl e
    · exact .inr ⟨e1, e2.upd u (Ne.symm hF.2.2), e3⟩
  · by_cases hki : k = i
    · subst hki
      refine ((H.rs k hk).sets _ j 0).congr fun x hx => ?_
      rw [lst_length, Nat.add_zero]
      by_cases c1 : j ≤ x ∧ x < j + t
      · rw [if_pos c1, if_pos (by omega), lst_getD (by omega)]
        congr 2; omega
      · rw [if_neg c1, if_neg (by omega)]
    · refine ((H.rs k hk).upd u (fun e => hki (H.inj k hk i hi e))).congr fun x hx => ?_
      rw [if_neg]
      intro e
      rcases Nat.lt_or_ge k i with hl | hl
      · have : (k + 1) * c.size ≤ i * c.size := Nat.mul_le_mul_right _ hl
        rw [Nat.succ_mul] at this
        omega
      · have : (i + 1) * c.size ≤ k * c.size := Nat.mul_le_mul_right _ (by omega)
        rw [Nat.succ_mul] at this
        omega
  · split
    · exact hg _ (by omega)
    · exact H.by8 o ho

theorem mem_put_ok {p : Int} {m cap off : Nat} {g : Nat → Int} {q : Option Addr} (H : Sp h s c n M Z) (hr : Row h q m (fun i => .int .u8 (g i))) (hg : ∀ x, x < m → 0 ≤ g x ∧ g x < 256) (hqZ : m = 0 ∨ Off Z q) (hc : m ≤ cap)
    (hp : m = 0 ∨ (p = c.base + (off : Int) ∧ off + m ≤ n * c.size))
    (hK : ∀ h' : Heap, Upd Z h h' → h'.size = h.size → Sp h' s c n (fun o => if off ≤ o ∧ o < off + m then g (o - off) else M o) Z → K (.tuple #[]) h') :
    CallV Try.prog w₀ F.mem_Space_put [.pointer (some ⟨s, 0, none⟩), .int .u64 p, .slice q m cap] h K := by
  refine mem_Space_put.call ?_
  unfold mem_Space_put.vc
  intro L hL
  induction m using Nat.strongRecOn generalizing h p cap q off g M with
  | ind m ih =>
    apply hL
    refine ⟨fun e => ?_, fun e => ?_⟩
    case refine_2 =>
      simp at e
      subst e
      exact hK h (Upd.refl _ _) rfl (H.congr fun j hj => by rw [if_neg (by omega)])
    simp at e
    rcases hp with hp | ⟨rfl, hoff⟩
    · omega
    rcases hr with hr | ⟨qb, qo, rfl, hr⟩
    · omega
    rcases hqZ with hqZ | hqZ
    · omega
    have h1 := H.base
    have h3 := H.size
    have hl := H.good.len H.nl
    have hS := H
    obtain ⟨w, H⟩ := H
    have h4 : cellAt h ⟨s, 4, none⟩ = some (.slice w.pp n w.pc) := H.st.cell (i := 4) (by omega)
    obtain ⟨o1, o2, o3⟩ := off_nums H.good (off := off) (by omega)
    obtain ⟨i1, i2, i3⟩ := off_in H.good (off := off) (n := n) (by omega)
    have hs := H.good.size_pos
    simp only [jor, jand, cellAt_new, add_mk, List.getElem?_toArray, Nat.zero_add, List.getElem?_cons_zero, List.getElem?_cons_succ, Option.some.injEq, Value.int.injEq, Value.bool.injEq, Value.pointer.injEq, Value.slice.injEq, true_and, and_true, exists_eq_left', exists_eq', and_assoc, exists_and_left, h1, h3, h4, o1, o2, o3]
    generalize hi : off / c.size = i at *
    generalize hj : off % c.size = j at *
    have t1 : Int.toNat (i : Int) = i := by omega
    have t2 : Int.toNat (j : Int) = j := by omega
    have t3 : Int.toNat (c.size : Int) = c.size := by omega
    have t4 : Int.toNat (m : Int) = m := by omega
    rw [t1, t2, t4]
    rcases H.ps with ⟨e3, e4, e5⟩ | ⟨e3, e4, e5, e6, e7⟩
    · omega
    have hpi := H.pf i i1
    have hcl : cellAt h ⟨w.pb, 0 + i * 1, none⟩ = some (.slice (some ⟨w.rb i, 0, none⟩) c.size c.size) := by
      rw [← hpi, Nat.zero_add, Nat.mul_one]; exact e4.cell (by omega)
    have hrg := H.rs i i1
    have hF := H.rF i i1
    refine ⟨by omega, ⟨w.pb, 0, none⟩, e3, by omega, by omega, _, _, _, by rw [add_mk]; exact hcl, by omega, by omega, by omega, by omega, ?_⟩
    rw [t3, if_neg (by omega)]
    obtain ⟨t, ht⟩ : ∃ t, t = Nat.min m (c.size - j) := ⟨_, rfl⟩
    have ht0 : 0 < t := by rw [ht]; exact Nat.lt_min.2 ⟨by omega, by omega⟩
    have ht1 : t ≤ c.size - j := by rw [ht]; exact Nat.min_le_right _ _
    have ht2 : t ≤ m := by rw [ht]; exact Nat.min_le_left _ _
    have t5 : Int.toNat ((Nat.min m (c.size - j) : Nat) : Int) = t := by rw [ht]; omega
    have t6 : IntKind.u64.wrap (c.base + (off : Int) + IntKind.u64.wrap ((Nat.min m (c.size - j) : Nat) : Int)) = c.base + ((off + t : Nat) : Int) := by
      rw [← ht, IntKind.wrap_u64 (t : Int), IntKind.wrap_u64]
      have := H.good.b0
      omega
    rw [t5, t6, ← ht]
    have hdst : Option.map (fun b => Addr.add b (j * 1)) (some (⟨w.rb i, 0, none⟩ : Addr)) = some ⟨w.rb i, j, none⟩ := by simp
    rw [hdst]
    have rowS : Row h (some ⟨qb, qo, none⟩) t (fun x => .int .u8 (g x)) := .inr ⟨qb, qo, rfl, fun x hx => hr x (by omega)⟩
    refine ⟨lst t (fun x => .int .u8 (g x)), ⟨by simp [← ht], rowS.rowAt, ?_, ?_⟩, by omega, by omega, by omega, ?_⟩
    · intro v hv
      simp [lst] at hv
      obtain ⟨x, _, rfl⟩ := hv
      rfl
    · intro a ha x hx
      cases ha
      rw [add_mk]
      simp at hx
      exact hrg.wr (by omega)
    let h2 : Heap := setCs h ⟨w.rb i, j, none⟩ 0 (lst t (fun x => .int .u8 (g x)))
    have u2 : Upd Z h h2 := (setCs_upd _ _ _ _).mono fun b e _ => by rw [e]; exact hF.1
    have s2 : h2.size = h.size := setCs_size _ _ _ _
    have S2 : Sp h2 s c n (fun o => if off ≤ o ∧ o < off + t then g (o - off) else M o) Z := by
      have := H.sets i1 (j := j) (t := t) (by omega) g fun x hx => hg x (by omega)
      rw [i3] at this
      exact this
    refine ih (m - t) (by omega) (h := h2) (off := off + t) (g := fun x => g (t + x)) S2 ?_ (fun x hx => hg _ (by omega)) ?_ (by omega) (.inr ⟨rfl, by omega⟩) ?_
    · by_cases hct : cap = t
      · exact .inl (by omega)
      · refine .inr ⟨qb, qo + t, ?_, fun x hx => ?_⟩
        · rw [if_neg hct]; simp
        · rw [Nat.add_assoc]
          exact cellAt_upd (hr (t + x) (by omega)) u2 (show ¬ Z qb from hqZ ⟨qb, qo, none⟩ rfl)
    · refine .inr fun a ha => ?_
      have hz : ¬ Z qb := hqZ ⟨qb, qo, none⟩ rfl
      by_cases hct : cap = t
      · rw [if_pos hct] at ha; cases ha; exact hz
      · rw [if_neg hct] at ha; simp at ha; cases ha; exact hz
    · intro h' u' s' b'
      refine hK h' (Upd.trans u2 u' (fun b e => e) (fun b e _ => e)) (by omega) (b'.congr fun k hk => ?_)
      by_cases c1 : off + t ≤ k ∧ k < off + t + (m - t)
      · rw [if_pos c1, if_pos (by omega)]
        congr 1; omega
      · rw [if_neg c1]
        by_cases c2 : off ≤ k ∧ k < off + t
        · rw [if_pos c2, if_pos (by omega)]
        · rw [if_neg c2, if_neg (by omega)]

end
end Go.Proofs.Ytfijahblggnbbaa
