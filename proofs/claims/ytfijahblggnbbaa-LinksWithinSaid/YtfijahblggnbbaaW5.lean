/- mem: the calls that answer a fault. No condition. -/
import Derived.Test.YtfijahblggnbbaaW4
set_option linter.unusedSimpArgs false
set_option linter.unusedVariables false
namespace Go.Proofs.Ytfijahblggnbbaa
open Go.V Classical

section
variable {w₀ : World} {h : Heap} {s n : Nat} {c : Cfg} {M : Nat → Int} {Z : Nat → Prop} {K : Value → Heap → Prop}

theorem mem_caught_nil_ok (a : Addr) (h : Heap) : CallV Try.prog w₀ F.mem_caught [.nilIface, .pointer (some a)] h fun _ h' => h' = h :=
  mem_caught_nil.call (R := callPost (fun _ h' => h' = h) fun _ _ => False) ⟨fun _ => rfl, fun e => by cases e⟩

theorem mem_caught_fault_ok (a : Addr) (h : Heap) (x : Int) (hw : Wr (h.push (.cells #[.int .i64 x] T.T_mem_fault)) a) :
    CallV Try.prog w₀ F.mem_caught [.iface T.T_mem_fault (.agg #[.int .i64 x]), .pointer (some a)] h fun _ h' => h' = setC (h.push (.cells #[.int .i64 x] T.T_mem_fault)) a (.int .i64 x) := by
  refine mem_caught_fault.call (R := callPost (fun _ h' => h' = setC (h.push (.cells #[.int .i64 x] T.T_mem_fault)) a (.int .i64 x)) fun _ _ => False) ⟨fun e => (by cases e), fun _ => ⟨?_, ?_⟩⟩
  · exact (Blk.new h #[.int .i64 0] T.T_mem_fault).wr (i := 0) (by decide)
  · rw [setC_push]
    intro J k
    refine ⟨fun e => (by cases e), fun _ => k _ _ _ ⟨x, ?_, a, rfl, hw, rfl⟩⟩
    exact (Blk.new h #[.int .i64 x] T.T_mem_fault).cell (i := 0) (by simp)

theorem catches_Byte : Catches Try.prog w₀ F.mem_Space_Byte_1 T.T_mem_fault := mem_Space_Byte_1.catches mem_caught_nil_ok mem_caught_fault_ok
theorem catches_Word : Catches Try.prog w₀ F.mem_Space_Word_1 T.T_mem_fault := mem_Space_Word_1.catches mem_caught_nil_ok mem_caught_fault_ok
theorem catches_SetWord : Catches Try.prog w₀ F.mem_Space_SetWord_1 T.T_mem_fault := mem_Space_SetWord_1.catches mem_caught_nil_ok mem_caught_fault_ok
theorem catches_Read : Catches Try.prog w₀ F.mem_Space_Read_1 T.T_mem_fault := mem_Space_Read_1.catches mem_caught_nil_ok mem_caught_fault_ok
/-- What a fault leaves: the error's cell holds 4. -/
theorem caught_look {h h' : Heap} {T₁ : TypeId} {K : Heap → Prop} (hk : ∀ h2, Upd NoB h h2 → cellAt h2 ⟨h.size, 0, none⟩ = some (.int .i64 4) → K h2) :
    caughtK T.T_mem_fault [⟨.iface T.T_mem_fault (.agg #[.int .i64 4]), false, false⟩] (h.push (.cells #[.int .i64 0] T₁)) ⟨h.size, 0, none⟩ K := by
  have b1 : Blk (h.push (.cells #[.int .i64 0] T₁)) h.size 1 (fun j => (#[.int .i64 0] : Array Value).getD j undef) := Blk.new h _ _
  have b2 := b1.push (.cells #[.int .i64 4] T.T_mem_fault)
  refine ⟨by simp, b2.wr (i := 0) (by decide), hk _ ?_ ?_⟩
  · refine Upd.trans (push_upd NoB h _) (Upd.trans (push_upd NoB _ _) (setC_upd _ _ _) (S'' := fun b => b = h.size) (fun b e => e.elim) (fun b e _ => e)) (fun b e => e) (fun b e hb => ?_)
    omega
  · have := (b2.set 0 (.int .i64 4)).cell (i := 0) (by decide)
    simpa using this

/-- A normal end's error cell. -/
theorem end_cell {h h1 : Heap} {T₁ : TypeId} {S : Nat → Prop} (hu : Upd S (h.push (.cells #[.int .i64 0] T₁)) h1) (hs : ¬ S h.size) :
    Wr h1 ⟨h.size, 0, none⟩ ∧ cellAt (setC h1 ⟨h.size, 0, none⟩ (.int .i64 0)) ⟨h.size, 0, none⟩ = some (.int .i64 0) := by
  have b1 : Blk (h.push (.cells #[.int .i64 0] T₁)) h.size 1 (fun j => (#[.int .i64 0] : Array Value).getD j undef) := Blk.new h _ _
  have b2 := b1.upd hu hs
  refine ⟨b2.wr (i := 0) (by decide), ?_⟩
  have := (b2.set 0 (.int .i64 0)).cell (i := 0) (by decide)
  simpa using this

theorem mem_Byte_ok {p : Int} (hp : 0 ≤ p ∧ p < 18446744073709551616) (H : Sp h s c n M Z)
    (hy : There c n p 1 → ∀ h' : Heap, Upd NoB h h' → K (.tuple #[.int .u8 (M (p - c.base).toNat), .int .i64 0]) h')
    (hn : ¬ There c n p 1 → ∀ h' : Heap, Upd NoB h h' → K (.tuple #[.int .u8 0, .int .i64 4]) h') :
    CallV Try.prog w₀ F.mem_Space_Byte [.pointer (some ⟨s, 0, none⟩), .int .u64 p] h K := by
  refine mem_Space_Byte.call catches_Byte ?_
  unfold mem_Space_Byte.vc
  have H1 : Sp (h.push (.cells #[.int .i64 0] T.T_api_Errno)) s c n M Z := H.upd (push_upd NoB _ _) fun _ _ => id
  refine mem_look_ok hp (by decide) H1 (fun t => ⟨rfl, ?_⟩) (fun t => caught_look (h' := h) fun h2 u2 c2 => ⟨4, c2, hn t h2 u2⟩)
  obtain ⟨off, hoff⟩ : ∃ off : Nat, p = c.base + (off : Int) := ⟨(p - c.base).toNat, by rcases t with t | t <;> omega⟩
  subst hoff
  have ho : off < n * c.size := by rcases t with t | t <;> omega
  have e : (c.base + (off : Int) - c.base).toNat = off := by omega
  rw [e] at hy
  refine (mem_byteAt_ok H1 ho fun a ha hc hw hs => ⟨_, rfl, a, rfl, _, hc, ?_⟩).toE
  obtain ⟨e1, e2⟩ := end_cell (h := h) (T₁ := T.T_api_Errno) (Upd.refl NoB _) id
  refine ⟨e1, 0, e2, hy t _ ?_⟩
  exact Upd.trans (push_upd NoB h _) (setC_upd _ _ _) (fun b e => e) (fun b e hb => absurd e (Nat.ne_of_lt hb))

theorem there_off {p q : Int} (t : There c n p q) (hq : q ≠ 0) (hq0 : 0 ≤ q) : ∃ off : Nat, p = c.base + (off : Int) ∧ (p - c.base).toNat = off ∧ off + q.toNat ≤ n * c.size := by
  rcases t with t | t
  · omega
  · exact ⟨(p - c.base).toNat, by omega, rfl, by omega⟩

theorem mem_Read_ok {p q : Int} (hp : 0 ≤ p ∧ p < 18446744073709551616) (hq : 0 ≤ q ∧ q < 18446744073709551616) (H : Sp h s c n M Z)
    (hy : There c n p q → ∀ (h' : Heap) (bb : Nat), Upd NoB h h' → h.size ≤ bb → Blk h' bb q.toNat (fun j => .int .u8 (M ((p - c.base).toNat + j))) → K (.tuple #[.slice (some ⟨bb, 0, none⟩) q.toNat q.toNat, .int .i64 0]) h')
    (hn : ¬ There c n p q → ∀ h' : Heap, Upd NoB h h' → K (.tuple #[.slice none 0 0, .int .i64 4]) h') :
    CallV Try.prog w₀ F.mem_Space_Read [.pointer (some ⟨s, 0, none⟩), .int .u64 p, .int .u64 q] h K := by
  refine mem_Space_Read.call catches_Read ?_
  unfold mem_Space_Read.vc
  have H1 : Sp (h.push (.cells #[.int .i64 0] T.T_api_Errno)) s c n M Z := H.upd (push_upd NoB _ _) fun _ _ => id
  refine mem_look_ok hp hq H1 (fun t => ⟨rfl, ?_⟩) (fun t => caught_look (h' := h) fun h2 u2 c2 => ⟨4, c2, hn t h2 u2⟩)
  have hl := H.good.len H.nl
  refine ⟨hq.1, Int.le_refl _, ?_, ?_⟩
  · rcases t with t | t <;> omega
  have hs : ¬ Z h.size := fun hz => absurd (H.lt _ hz) (Nat.lt_irrefl _)
  let h1 : Heap := h.push (.cells #[.int .i64 0] T.T_api_Errno)
  have s1 : h1.size = h.size + 1 := by simp [h1]
  have hs1 : ¬ Z h1.size := fun hz => absurd (H.lt _ hz) (by omega)
  let h2 : Heap := h1.push (.cells (zrow [(.int .u8 (0 : Int))] q.toNat).toArray T.T_uint8)
  have u12 : Upd NoB h1 h2 := push_upd _ _ _
  have H2 : Sp h2 s c n M Z := H1.upd u12 fun _ _ => id
  have b2 : Blk h2 h1.size q.toNat (fun j => (zrow [(.int .u8 (0 : Int))] q.toNat).toArray.getD j undef) := by
    have := Blk.new h1 (zrow [(.int .u8 (0 : Int))] q.toNat).toArray T.T_uint8
    rw [show (zrow [(.int .u8 (0 : Int))] q.toNat).toArray.size = q.toNat by simp [zrow_length]] at this
    exact this
  obtain ⟨off, ho⟩ : ∃ off : Nat, (q = 0 ∨ (p = c.base + (off : Int) ∧ off + q.toNat ≤ n * c.size ∧ (p - c.base).toNat = off)) := by
    rcases t with t | t
    · exact ⟨0, .inl t⟩
    · exact ⟨(p - c.base).toNat, .inr ⟨by omega, by omega, rfl⟩⟩
  refine (mem_get_ok (off := off) (bb := h1.size) (o := 0) (m := q.toNat) (cap := q.toNat) (N := q.toNat) H2 b2 hs1 (by omega) (by omega) ?_ (.inr rfl) fun h' u' s' b' => ⟨rfl, ?_⟩).toE
  · rcases ho with ho | ho
    · exact .inl (by omega)
    · exact .inr ⟨ho.1, ho.2.1⟩
  have uh : Upd (fun x => x = h1.size) h1 h' := Upd.trans u12 u' (fun b e => e.elim) (fun b e _ => e)
  obtain ⟨e1, e2⟩ := end_cell (h := h) (T₁ := T.T_api_Errno) uh (by omega)
  refine ⟨e1, 0, e2, hy t _ h1.size ?_ (by omega) ?_⟩
  · exact Upd.trans (push_upd NoB h _) (Upd.trans uh (setC_upd _ _ _) (S'' := fun b => h.size ≤ b) (fun b e => by omega) (fun b e _ => Nat.le_of_eq e.symm)) (fun b e => e) (fun b e hb => absurd e (by omega))
  · refine (b'.set_ne (a := ⟨h.size, 0, none⟩) (by dsimp only; omega) _).congr fun j hj => ?_
    rcases ho with ho | ho
    · omega
    · rw [if_pos (by omega), ho.2.2, Nat.sub_zero]

end
end Go.Proofs.Ytfijahblggnbbaa
