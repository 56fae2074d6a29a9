/- mem: spaces made, grown and shrunk. No condition. -/
import Derived.Test.YtfijahblggnbbaaW2
set_option linter.unusedSimpArgs false
set_option linter.unusedVariables false
namespace Go.Proofs.Ytfijahblggnbbaa
open Go.V Classical

/-- No block. -/
abbrev NoB : Nat → Prop := fun _ => False

section
variable {w₀ : World} {h : Heap} {s n : Nat} {c : Cfg} {M : Nat → Int} {Z : Nat → Prop} {K : Value → Heap → Prop}

theorem mem_Regions_ok (H : Sp h s c n M Z) (hK : K (.int .i64 n) h) : CallV Try.prog w₀ F.mem_Space_Regions [.pointer (some ⟨s, 0, none⟩)] h K := by
  refine mem_Space_Regions.call ?_
  obtain ⟨w, H⟩ := H
  have h4 : cellAt h ⟨s, 4, none⟩ = some (.slice w.pp n w.pc) := H.st.cell (i := 4) (by omega)
  exact ⟨_, rfl, _, _, _, by rw [add_mk]; exact h4, hK⟩

theorem size_wrap {d : Int} (h0 : 0 ≤ d) (h8 : d ≤ 8) : IntKind.u64.wrap (4096 * 2 ^ min d.toNat IntKind.u64.bits) = ((4096 * 2 ^ d.toNat : Nat) : Int) := by
  have hd : d = 0 ∨ d = 1 ∨ d = 2 ∨ d = 3 ∨ d = 4 ∨ d = 5 ∨ d = 6 ∨ d = 7 ∨ d = 8 := by omega
  rcases hd with rfl | rfl | rfl | rfl | rfl | rfl | rfl | rfl | rfl <;> decide

theorem mem_New_ok {a b d : Int} (ha : 0 ≤ a ∧ a < 18446744073709551616)
    (hn : ¬ Cfg.Good ⟨a, b, d⟩ → ∀ h', Upd NoB h h' → K (.tuple #[.pointer none, .int .i64 1]) h')
    (hg : Cfg.Good ⟨a, b, d⟩ → ∀ (h' : Heap) (s : Nat), Upd NoB h h' → h.size ≤ s → Sp h' s ⟨a, b, d⟩ 0 (fun _ => 0) (fun x => x = s) → K (.tuple #[.pointer (some ⟨s, 0, none⟩), .int .i64 0]) h') :
    CallV Try.prog w₀ F.mem_New [.agg #[.int .u64 a, .int .i64 b, .int .i64 d]] h K := by
  refine mem_New.call ?_
  unfold mem_New.vc
  simp only [jor, jand, cellAt_new, add_mk, List.getElem?_toArray, Nat.zero_add, List.getElem?_cons_zero, List.getElem?_cons_succ, Option.some.injEq, Value.int.injEq, Value.bool.injEq, Value.pointer.injEq, Value.slice.injEq, true_and, and_true, exists_eq_left', exists_eq', and_assoc, exists_and_left]
  refine mem_may_ok ha fun h' hu => ?_
  have hu0 : Upd NoB h h' := Upd.trans (push_upd NoB h _) hu (fun b e => e) (fun b e _ => e)
  have bl : Blk h' h.size 3 (fun j => (#[(.int .u64 a), (.int .i64 b), (.int .i64 d)] : Array Value).getD j undef) :=
    (Blk.new h _ _).upd hu id
  have c0 : cellAt h' ⟨h.size, 0, none⟩ = some (.int .u64 a) := bl.cell (i := 0) (by omega)
  have c1 : cellAt h' ⟨h.size, 1, none⟩ = some (.int .i64 b) := bl.cell (i := 1) (by omega)
  have c2 : cellAt h' ⟨h.size, 2, none⟩ = some (.int .i64 d) := bl.cell (i := 2) (by omega)
  refine ⟨_, rfl, fun e => ?_, fun e => ?_⟩
  · simp at e
    exact hn e h' hu0
  · simp at e
    have g := good_iff.1 e
    refine ⟨_, c0, _, c1, _, c2, _, c2, g.1, ?_⟩
    rw [size_wrap g.1 g.2.1]
    have hs : h.size ≤ h'.size := hu0.1
    refine hg e _ h'.size (Upd.trans hu0 (push_upd NoB h' _) (fun b e => e) (fun b e _ => e)) hs ?_
    refine ⟨⟨none, 0, 0, fun _ => 0, fun _ => undef⟩, { good := e, st := ?_, ps := .inl ⟨rfl, rfl, rfl⟩, pf := fun i hi => absurd hi (by omega), rs := fun i hi => absurd hi (by omega), rF := fun i hi => absurd hi (by omega), inj := fun i hi => absurd hi (by omega), sF := rfl, lt := fun b hb => by simp only [Array.size_push]; omega, nl := by have := e.l1; dsimp only at *; omega, by8 := fun o ho => by omega }⟩
    refine Blk.new' _ _ _ _ _ rfl fun j hj => ?_
    have : j = 0 ∨ j = 1 ∨ j = 2 ∨ j = 3 ∨ j = 4 := by omega
    rcases this with rfl | rfl | rfl | rfl | rfl <;> rfl

theorem Upd.lt_trans {S : Nat → Prop} {h h' : Heap} (H : Upd S h h') {b : Nat} (hb : b < h.size) : b < h'.size := Nat.lt_of_lt_of_le hb H.1

/-- Blocks of Z, and those that are new in h'. -/
def Gr (Z : Nat → Prop) (h h' : Heap) : Nat → Prop := fun b => Z b ∨ (h.size ≤ b ∧ b < h'.size)

theorem mem_Commit_ok {deny : Bool} (H : Sp h s c n M Z)
    (hn : deny = true ∨ (n : Int) = c.limit → K (.tuple #[.int .u64 0, .int .i64 2]) h)
    (hg : deny = false → (n : Int) < c.limit → ∀ h', Upd Z h h' → Sp h' s c (n + 1) (fun o => if o < n * c.size then M o else 0) (Gr Z h h') → K (.tuple #[.int .u64 (c.base + (n * c.size : Nat)), .int .i64 0]) h') :
    CallV Try.prog w₀ F.mem_Space_Commit [.pointer (some ⟨s, 0, none⟩), .bool deny] h K := by
  refine mem_Space_Commit.call ?_
  have hS := H
  have h1 := H.limit
  have h3 := H.size
  obtain ⟨w, H⟩ := H
  have h4 : cellAt h ⟨s, 4, none⟩ = some (.slice w.pp n w.pc) := H.st.cell (i := 4) (by omega)
  unfold mem_Space_Commit.vc
  simp only [jor, jand, cellAt_new, add_mk, List.getElem?_toArray, Nat.zero_add, List.getElem?_cons_zero, List.getElem?_cons_succ, Option.some.injEq, Value.int.injEq, Value.bool.injEq, Value.pointer.injEq, Value.slice.injEq, true_and, and_true, exists_eq_left', exists_eq', and_assoc, exists_and_left, h1, h4]
  refine ⟨fun e => ?_, fun e => ?_⟩
  · refine hn ?_
    simpa using e
  simp only [Bool.or_eq_false_iff, beq_eq_false_iff_ne] at e
  obtain ⟨e1, e2⟩ := e
  have hlt : (n : Int) < c.limit := by have := H.nl; omega
  have hl64 := H.good.l64
  refine mem_End_ok hS ⟨_, rfl, ?_⟩
  have hsz := H.good.size_le
  have hsl := H.good.size_pos
  have hsb : s < h.size := H.st.lt
  let A : Heap := h.push (.cells (zrow [(.int .u8 (0 : Int))] c.size).toArray T.T_uint8)
  let B : Heap := A.push (.cells #[(.slice (some ⟨h.size, 0, none⟩) c.size c.size)] T.T_sl_uint8)
  have hA : Upd NoB h A := push_upd _ _ _
  have hB : Upd NoB A B := push_upd _ _ _
  have hAB : Upd NoB h B := Upd.trans hA hB (fun b e => e) (fun b e _ => e)
  have sA : A.size = h.size + 1 := by simp [A]
  have sB : B.size = h.size + 2 := by simp [B, A]
  have stB : Blk B s 5 (spf c n w) := H.st.upd hAB id
  have c4A : cellAt A ⟨s, 4, none⟩ = some (.slice w.pp n w.pc) := (H.st.upd hA id).cell (i := 4) (by omega)
  have c4B : cellAt B ⟨s, 4, none⟩ = some (.slice w.pp n w.pc) := stB.cell (i := 4) (by omega)
  have hz : (Int.toNat (c.size : Int)) = c.size := by omega
  refine ⟨_, _, _, h4, _, h3, ?_⟩
  rw [hz]
  refine ⟨by omega, by omega, by omega, c4A, c4B, ?_⟩
  have hbN : Blk B h.size c.size (fun _ => .int .u8 0) := by
    refine Blk.upd (Blk.new' _ _ _ c.size (fun _ => .int .u8 0) (by simp [zrow_length]) fun j hj => ?_) hB id
    have := zrow_get [(.int .u8 (0 : Int))] c.size j (by simpa using hj)
    simp only [List.length_cons, List.length_nil, Nat.zero_add, Nat.mod_one, List.getElem?_cons_zero] at this
    simpa using this
  have hx : Blk B (h.size + 1) 1 (fun _ => .slice (some ⟨h.size, 0, none⟩) c.size c.size) := by
    have := Blk.new' A #[(.slice (some ⟨h.size, 0, none⟩) c.size c.size)] T.T_sl_uint8 1 (fun _ => .slice (some ⟨h.size, 0, none⟩) c.size c.size) rfl fun j hj => by
      have : j = 0 := by omega
      subst this; rfl
    rw [sA] at this
    exact this
  have rowP : Row B w.pp n w.pf := by
    rcases H.ps with ⟨e3, e4, e5⟩ | ⟨e3, e4, e5, e6, e7⟩
    · exact .inl e5
    · rw [e3]
      refine (((e4.upd hAB id).row 0 n (by omega))).congr fun i hi => by rw [Nat.zero_add]
  have rowX : Row B (some ⟨h.size + 1, 0, none⟩) 1 (fun _ => .slice (some ⟨h.size, 0, none⟩) c.size c.size) := hx.row 0 1 (by omega)
  refine ⟨lst n w.pf, lst 1 (fun _ => .slice (some ⟨h.size, 0, none⟩) c.size c.size), ⟨by simp, rowP.rowAt, by simp, by have := rowX.rowAt; rw [← sA] at this; exact this, fun hc => ⟨?_, ?_⟩, fun hc => ?_⟩, ?_⟩
  · intro v hv
    simp [lst] at hv
    subst hv
    rfl
  · intro a ha
    rcases H.ps with ⟨e3, e4, e5⟩ | ⟨e3, e4, e5, e6, e7⟩
    · rw [e4] at ha; cases ha
    · rw [e3] at ha
      cases ha
      intro j hj
      rw [add_mk, add_mk]
      exact (e4.upd hAB id).wr (by simp at hj; omega)
  · have := nextslicecap_le (need := n + 1) (old := w.pc) hc
    have : Builtin.nextslicecap (n + 1) w.pc ≤ 200 := by omega
    exact Nat.le_trans (Nat.mul_le_mul_right 24 this) (by decide)
  intro p' c' h' hres
  have lt1 : ∀ i j, i < n → j < c.size → i * c.size + j < n * c.size := fun i j hi hj => by
    have : (i + 1) * c.size ≤ n * c.size := Nat.mul_le_mul_right _ hi
    rw [Nat.succ_mul] at this
    omega
  have fin : ∀ (pb' : Nat) (pf' : Nat → Value), p' = some ⟨pb', 0, none⟩ → Blk h' pb' c' pf' → pb' ≠ s → n + 1 ≤ c' → (∀ i, i < n → pf' i = w.pf i) → pf' n = .slice (some ⟨h.size, 0, none⟩) c.size c.size →
      (pb' = w.pb ∧ Z pb' ∨ h.size + 2 ≤ pb') → Upd (fun b => b = pb') B h' →
      Wr h' ⟨s, 4, none⟩ ∧ K (.tuple #[.int .u64 (c.base + (n * c.size : Nat)), .int .i64 0]) (setC h' ⟨s, 4, none⟩ (.slice p' (n + 1) c')) := by
    intro pb' pf' hp hbl hps hc hpf hpn hpb hu
    subst hp
    have hlt' := hbl.lt
    have st' : Blk h' s 5 (spf c n w) := stB.upd hu (Ne.symm hps)
    refine ⟨st'.wr (by omega), hg e1 hlt _ ?_ ?_⟩
    · refine Upd.trans hAB (Upd.trans hu (setC_upd h' _ _) (S'' := fun b => b = pb' ∨ b = s) (fun b e => .inl e) (fun b e _ => .inr e)) (fun b e => e.elim) fun b e hb => ?_
      rcases e with e | e
      · rcases hpb with ⟨_, e'⟩ | e'
        · rw [e]; exact e'
        · omega
      · rw [e]; exact H.sF
    have hsz' : h.size + 2 ≤ h'.size := by have := hu.1; omega
    refine ⟨⟨some ⟨pb', 0, none⟩, c', pb', fun i => if i = n then h.size else w.rb i, pf'⟩, { good := H.good, st := ?_, ps := .inr ⟨rfl, ?_, ?_, hps, hc⟩, pf := ?_, rs := ?_, rF := ?_, inj := ?_, sF := .inl H.sF, lt := ?_, nl := by omega, by8 := ?_ }⟩
    · refine (st'.set 4 _).congr fun i hi => ?_
      have : i = 0 ∨ i = 1 ∨ i = 2 ∨ i = 3 ∨ i = 4 := by omega
      rcases this with rfl | rfl | rfl | rfl | rfl <;> rfl
    · exact hbl.set_ne (a := ⟨s, 4, none⟩) hps _
    · rcases hpb with ⟨_, e'⟩ | e'
      · exact .inl e'
      · exact .inr ⟨Nat.le_trans (by omega) e', by simpa using hlt'⟩
    · intro i hi
      dsimp only
      by_cases hin : i = n
      · subst hin; rw [if_pos rfl]; exact hpn
      · rw [if_neg hin, hpf i (by omega)]; exact H.pf i (by omega)
    · intro i hi
      dsimp only
      by_cases hin : i = n
      · subst hin
        rw [if_pos rfl]
        refine ((hbN.upd hu ?_).set_ne (a := ⟨s, 4, none⟩) (by dsimp only; omega) _).congr fun j hj => ?_
        · rcases hpb with ⟨e, e'⟩ | e'
          · have := H.lt _ e'; omega
          · omega
        · rw [if_neg (by omega)]
      · rw [if_neg hin]
        have hi' : i < n := by omega
        have hF := H.rF i hi'
        have hl := H.lt _ hF.1
        refine (((H.rs i hi').upd hAB id).upd hu ?_ |>.set_ne (a := ⟨s, 4, none⟩) hF.2.1 _).congr fun j hj => ?_
        · rcases hpb with ⟨e, e'⟩ | e'
          · rw [e]; exact hF.2.2
          · omega
        · rw [if_pos (lt1 i j hi' hj)]
    · intro i hi
      dsimp only
      by_cases hin : i = n
      · subst hin
        rw [if_pos rfl]
        refine ⟨.inr ⟨by omega, by simp; omega⟩, by omega, ?_⟩
        rcases hpb with ⟨e, e'⟩ | e'
        · have := H.lt _ e'; omega
        · omega
      · rw [if_neg hin]
        have hF := H.rF i (by omega)
        refine ⟨.inl hF.1, hF.2.1, ?_⟩
        have hl := H.lt _ hF.1
        rcases hpb with ⟨e, e'⟩ | e'
        · rw [e]; exact hF.2.2
        · omega
    · intro i hi j hj hij
      dsimp only at hij
      by_cases hin : i = n <;> by_cases hjn : j = n
      · omega
      · rw [if_pos hin, if_neg hjn] at hij
        have := H.lt _ (H.rF j (by omega)).1
        omega
      · rw [if_neg hin, if_pos hjn] at hij
        have := H.lt _ (H.rF i (by omega)).1
        omega
      · rw [if_neg hin, if_neg hjn] at hij
        exact H.inj i (by omega) j (by omega) hij
    · intro b hb
      simp only [setC_size]
      rcases hb with hb | hb
      · have := H.lt b hb; omega
      · simpa using hb.2
    · intro o ho
      split
      · exact H.by8 o (by assumption)
      · omega
  rcases hres with ⟨r1, rfl, rfl, rfl⟩ | ⟨r1, r2, rfl, rfl⟩
  · rcases H.ps with ⟨e3, e4, e5⟩ | ⟨e3, e4, e5, e6, e7⟩
    · omega
    · have hwr : wrH B (w.pp.map (·.add (n * [(Value.slice none 0 0)].length))) (lst 1 fun _ => .slice (some ⟨h.size, 0, none⟩) c.size c.size) = setCs B ⟨w.pb, n, none⟩ 0 [.slice (some ⟨h.size, 0, none⟩) c.size c.size] := by
        rw [e3]
        simp only [Option.map_some, add_mk, List.length_cons, List.length_nil, Nat.zero_add, Nat.mul_one]
        rfl
      have hwr' := hwr
      refine fin w.pb (fun j => if j = n then .slice (some ⟨h.size, 0, none⟩) c.size c.size else w.pf j) e3 ?_ e6 r1 (fun i hi => by rw [if_neg (by omega)]) (by rw [if_pos rfl]) (.inl ⟨rfl, e5⟩) ?_
      · rw [hwr]
        refine ((e4.upd hAB id).sets [.slice (some ⟨h.size, 0, none⟩) c.size c.size] n 0).congr fun j hj => ?_
        simp only [List.length_cons, List.length_nil, Nat.add_zero, Nat.zero_add]
        by_cases hjn : j = n
        · subst hjn; rw [if_pos (by omega), if_pos rfl, Nat.sub_self]; rfl
        · rw [if_neg (by omega), if_neg hjn]
      · rw [hwr]
        exact setCs_upd _ _ _ _
  · have hbs : B.size = h.size + 2 := sB
    refine fin B.size (fun j => if j = n then .slice (some ⟨h.size, 0, none⟩) c.size c.size else if j < n then w.pf j else .slice none 0 0) rfl ?_ (by omega) r2 (fun i hi => by rw [if_neg (by omega), if_pos hi]) (by rw [if_pos rfl]) (.inr (by omega)) (push_upd _ _ _)
    refine Blk.new' _ _ _ _ _ (by simp [zrow_length]; omega) fun j hj => ?_
    simp only [List.getElem?_toArray]
    by_cases hjn : j = n
    · subst hjn
      rw [if_pos rfl, List.append_assoc, List.getElem?_append_right (by simp), List.getElem?_append_left (by simp), lst_get (by simp)]
    · rw [if_neg hjn]
      by_cases hjl : j < n
      · rw [if_pos hjl, List.append_assoc, List.getElem?_append_left (by simpa using hjl), lst_get hjl]
      · rw [if_neg hjl, List.getElem?_append_right (by simp; omega), zrow_get _ _ _ (by simp; omega)]
        simp [Nat.mod_one]

theorem mem_Decommit_ok {k : Int} (hk : -9223372036854775808 ≤ k ∧ k ≤ 9223372036854775807) (H : Sp h s c n M Z)
    (hn : k < 0 ∨ (n : Int) < k → K (.int .i64 1) h)
    (hg : ∀ m : Nat, (m : Int) = n - k → m ≤ n → ∀ h', Upd Z h h' → h'.size = h.size → Sp h' s c m M Z → K (.int .i64 0) h') :
    CallV Try.prog w₀ F.mem_Space_Decommit [.pointer (some ⟨s, 0, none⟩), .int .i64 k] h K := by
  refine mem_Space_Decommit.call ?_
  obtain ⟨w, H⟩ := H
  have h4 : cellAt h ⟨s, 4, none⟩ = some (.slice w.pp n w.pc) := H.st.cell (i := 4) (by omega)
  unfold mem_Space_Decommit.vc
  simp only [jor, jand, cellAt_new, add_mk, List.getElem?_toArray, Nat.zero_add, List.getElem?_cons_zero, List.getElem?_cons_succ, Option.some.injEq, Value.int.injEq, Value.bool.injEq, Value.pointer.injEq, Value.slice.injEq, true_and, and_true, exists_eq_left', exists_eq', and_assoc, exists_and_left, h4]
  refine ⟨fun e => hn ?_, fun e => ?_⟩
  · simpa using e
  simp at e
  have hn64 : n ≤ 64 := by have := H.nl; have := H.good.l64; omega
  obtain ⟨m, hm⟩ : ∃ m : Nat, (m : Int) = n - k := ⟨(n - k).toNat, by omega⟩
  have hmn : m ≤ n := by omega
  have hw : IntKind.i64.wrap ((n : Int) - k) = (m : Int) := by rw [IntKind.wrap_i64]; omega
  have e1 : Int.toNat (m : Int) = m := by omega
  have e2 : Int.toNat (n : Int) = n := by omega
  have e0 : Int.toNat (0 : Int) = 0 := rfl
  have hg := hg m hm hmn
  rw [hw, e1, e2, e0]
  have by8 : ∀ o, o < m * c.size → 0 ≤ M o ∧ M o < 256 := fun o ho => H.by8 o (Nat.lt_of_lt_of_le ho (Nat.mul_le_mul_right _ hmn))
  have nl : (m : Int) ≤ c.limit := by have := H.nl; omega
  rcases H.ps with ⟨e3, e4, e5⟩ | ⟨e3, e4, e5, e6, e7⟩
  · subst e5
    have hm0 : m = 0 := by omega
    subst hm0
    have ec : ((((0 : Nat) : Int)).toNat - 0) = 0 := rfl
    rw [e3, e4]
    refine ⟨by omega, by omega, by omega, ⟨by simp [oneC], fun _ => rfl, by simp⟩, ?_⟩
    simp only [if_pos, wrH]
    refine ⟨none, 0, 0, by have := h4; rw [e3, e4] at this; exact this, by omega, by omega, by omega, H.st.wr (by omega), ?_⟩
    refine hg _ ((setC_upd h _ _).mono fun b e _ => by rw [e]; exact H.sF) (by simp) ?_
    refine ⟨w, { H with st := (H.st.set 4 _).congr fun i hi => ?_, ps := .inl ⟨e3, e4, rfl⟩, rs := fun i hi => absurd hi (by omega), lt := fun b hb => by rw [setC_size]; exact H.lt b hb }⟩
    have : i = 0 ∨ i = 1 ∨ i = 2 ∨ i = 3 ∨ i = 4 := by omega
    rcases this with rfl | rfl | rfl | rfl | rfl <;> simp [spf, e3, e4]
  · rw [e3]
    have hp1 : (if w.pc = 0 then some (⟨w.pb, 0, none⟩ : Addr) else Option.map (fun b => Addr.add b (0 * 1)) (some (⟨w.pb, 0, none⟩ : Addr))) = some ⟨w.pb, 0, none⟩ := by
      simp
    obtain ⟨o, ho, ho'⟩ : ∃ o, (if w.pc = m then some (⟨w.pb, 0, none⟩ : Addr) else Option.map (fun b => Addr.add b (m * 1)) (some (⟨w.pb, 0, none⟩ : Addr))) = some ⟨w.pb, o, none⟩ ∧ (m < n → o = m) := by
      by_cases hpm : w.pc = m
      · exact ⟨0, by rw [if_pos hpm], fun h => by omega⟩
      · exact ⟨m, by rw [if_neg hpm]; simp, fun _ => rfl⟩
    rw [ho]
    let h2 : Heap := setCs h ⟨w.pb, o, none⟩ 0 (zrow [.slice none 0 0] (n - m))
    have u2 : Upd (fun b => b = w.pb) h h2 := setCs_upd _ _ _ _
    have s2 : h2.size = h.size := setCs_size _ _ _ _
    have st2 : Blk h2 s 5 (spf c n w) := H.st.upd u2 (Ne.symm e6)
    refine ⟨by omega, by omega, by omega, ⟨by simp [oneC], by simp, ?_⟩, ?_⟩
    · intro a ha j hj
      cases ha
      rw [add_mk]
      refine e4.wr ?_
      simp at hj
      have := ho' (by omega)
      omega
    show ∃ n34p n34n n34c, cellAt h2 _ = _ ∧ _
    refine ⟨_, _, _, st2.cell (i := 4) (by omega), by omega, by omega, by omega, st2.wr (by omega), ?_⟩
    have hf : setC h2 ⟨s, 4, none⟩ (.slice (some ⟨w.pb, 0, none⟩) m w.pc) = setC h2 ⟨s, 4, none⟩ (.slice (if w.pc = 0 then w.pp else Option.map (fun b => Addr.add b (0 * 1)) w.pp) (m - 0) (w.pc - 0)) := by
      rw [e3, hp1]; rfl
    have uf : Upd Z h (setC h2 ⟨s, 4, none⟩ (.slice (some ⟨w.pb, 0, none⟩) m w.pc)) :=
      Upd.trans u2 (setC_upd _ _ _) (fun b e => by rw [e]; exact e5) (fun b e _ => by rw [e]; exact H.sF)
    have hK := hg _ uf (by rw [setC_size, s2]) ?_
    · rw [hf] at hK
      exact hK
    refine ⟨{ w with pf := fun j => if o ≤ j ∧ j < o + (n - m) then .slice none 0 0 else w.pf j }, { good := H.good, st := (st2.set 4 _).congr fun i hi => ?_, ps := .inr ⟨e3, ?_, e5, e6, by dsimp only; omega⟩, pf := fun i hi => ?_, rs := fun i hi => ?_, rF := fun i hi => H.rF i (by omega), inj := fun i hi j hj => H.inj i (by omega) j (by omega), sF := H.sF, lt := fun b hb => by rw [setC_size, s2]; exact H.lt b hb, nl := nl, by8 := by8 }⟩
    · have : i = 0 ∨ i = 1 ∨ i = 2 ∨ i = 3 ∨ i = 4 := by omega
      rcases this with rfl | rfl | rfl | rfl | rfl <;> simp [spf, e3]
    · refine ((e4.sets (zrow [.slice none 0 0] (n - m)) o 0).set_ne (a := ⟨s, 4, none⟩) e6 _).congr fun j hj => ?_
      rw [zrow_length, Nat.add_zero]
      simp only [List.length_cons, List.length_nil, Nat.zero_add, Nat.mul_one]
      split
      · rename_i hjr
        rw [List.getD_eq_getElem?_getD, zrow_get _ _ _ (by simp; omega)]
        simp [Nat.mod_one]
      · rfl
    · dsimp only
      rw [if_neg, H.pf i (by omega)]
      intro hh
      rcases Nat.lt_or_ge m n with hl | hl
      · have := ho' hl; omega
      · omega
    · have hF := H.rF i (by omega)
      exact ((H.rs i (by omega)).upd u2 hF.2.2).set_ne (a := ⟨s, 4, none⟩) hF.2.1 _

end
end Go.Proofs.Ytfijahblggnbbaa
