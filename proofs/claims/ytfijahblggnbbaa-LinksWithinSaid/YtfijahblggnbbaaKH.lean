/- What plays begin with: a space and the document's, regions, three lists. No condition. -/
import Derived.Test.YtfijahblggnbbaaKG
import Derived.Test.YtfijahblggnbbaaW9
import Derived.Test.YtfijahblggnbbaaKC
set_option linter.unusedSimpArgs false
set_option linter.unusedVariables false
namespace Go.Proofs.Ytfijahblggnbbaa
open Go.V Classical

/-- Steps that are handed in. -/
structure St4 where
  op : Int
  li : Int
  p : Int
  v : Int

def St4.f (x : St4) : Nat → Value
  | 0 => .int .i64 x.op
  | 1 => .int .i64 x.li
  | 2 => .int .u64 x.p
  | _ => .int .u64 x.v

def Sts (h : Heap) (p : Option Addr) (n c : Nat) : Prop := ∃ f : Nat → St4, n ≤ c ∧ c < 9223372036854775808 ∧ (n = 0 ∨ ∃ b off, p = some ⟨b, off, none⟩ ∧ ∀ i, i < n → ∀ j, j < 4 → cellAt h ⟨b, off + i * 4 + j, none⟩ = some ((f i).f j)) ∧ ∀ i, i < n → U64 (f i).p ∧ U64 (f i).v

def stTy : Nat → TypeDesc
  | 0 => .int .i64
  | 1 => .int .i64
  | _ => .int .u64

theorem stRow {H : Type} {enc : TypeId × Value → H} {W : World} {t e : TypeId} {fs : Array Field} {p : Option Addr} {n c : Nat} {d : DataW H} {ps : List MemPlace} (ht : Try.prog.underlying t = some (.slice e)) (he : Try.prog.underlying e = some (.struct fs)) (hm : fs.size = 4) (hce : Try.prog.cellsOf e = 4)
    (hf : ∀ j, j < 4 → ∃ f, fs[j]? = some f ∧ f.offset = j ∧ Try.prog.cellsOf f.type = 1 ∧ Try.prog.underlying f.type = some (stTy j))
    (h : DataW.Trod enc Try.prog W 0 (fun _ => true) true t (.slice p n c) d ps) : Sts W.heap p n c := by
  obtain ⟨h1, h2, h3⟩ := structRow ht he hm (by decide) hce hf h
  rcases h3 with h0 | ⟨b, off, rfl, hc⟩
  · exact ⟨fun _ => ⟨0, 0, 0, 0⟩, h1, h2, .inl h0, fun i hi => absurd hi (by omega)⟩
  · have each : ∀ i, ∃ o : St4, i < n → (∀ j, j < 4 → cellAt W.heap ⟨b, off + i * 4 + j, none⟩ = some (o.f j)) ∧ U64 o.p ∧ U64 o.v := by
      intro i
      by_cases hi : i < n
      · obtain ⟨v0, c0, z0, rfl, w0⟩ := hc i hi 0 (by omega)
        obtain ⟨v1, c1, z1, rfl, w1⟩ := hc i hi 1 (by omega)
        obtain ⟨v2, c2, z2, rfl, w2⟩ := hc i hi 2 (by omega)
        obtain ⟨v3, c3, z3, rfl, w3⟩ := hc i hi 3 (by omega)
        refine ⟨⟨z0, z1, z2, z3⟩, fun _ => ⟨fun j hj => ?_, wf_u64 w2, wf_u64 w3⟩⟩
        have : j = 0 ∨ j = 1 ∨ j = 2 ∨ j = 3 := by omega
        rcases this with rfl | rfl | rfl | rfl <;> assumption
      · exact ⟨⟨0, 0, 0, 0⟩, fun e => absurd e hi⟩
    exact ⟨fun i => (each i).choose, h1, h2, .inr ⟨b, off, rfl, fun i hi => ((each i).choose_spec hi).1⟩, fun i hi => ((each i).choose_spec hi).2⟩

def f3 (v0 v1 v2 : Value) : Nat → Value
  | 0 => v0
  | 1 => v1
  | _ => v2

def f4 (v0 v1 v2 v3 : Value) : Nat → Value
  | 0 => v0
  | 1 => v1
  | 2 => v2
  | _ => v3

theorem box3_ok (h : Heap) (z0 z1 z2 v0 v1 v2 : Value) (T : TypeId) : WrN (h.push (.cells #[z0, z1, z2] T)) ⟨h.size, 0, none⟩ 3 ∧ New h (setCs (h.push (.cells #[z0, z1, z2] T)) ⟨h.size, 0, none⟩ 0 [v0, v1, v2]) (blkR h.size 3 (f3 v0 v1 v2)) := by
  have N := New.box h #[z0, z1, z2] T
  have B : Blk (h.push (.cells #[z0, z1, z2] T)) h.size 3 (fun j => (#[z0, z1, z2] : Array Value).getD j undef) := N.p
  refine ⟨fun j hj => by rw [add_mk]; exact B.wr (by omega), N.stp (Stp.sets B [v0, v1, v2] 0 0 fun j hj => ?_)⟩
  rw [if_pos ⟨by omega, by simpa using hj⟩]
  have : j = 0 ∨ j = 1 ∨ j = 2 := by omega
  rcases this with rfl | rfl | rfl <;> rfl

theorem assign4 {h : Heap} {b : Nat} {f : Nat → Value} (B : Blk h b 4 f) (v0 v1 v2 v3 : Value) : WrN h ⟨b, 0, none⟩ 4 ∧ Stp h (setCs h ⟨b, 0, none⟩ 0 [v0, v1, v2, v3]) (blkR b 4 f) (blkR b 4 (f4 v0 v1 v2 v3)) := by
  refine ⟨fun j hj => by rw [add_mk]; exact B.wr (by omega), Stp.sets B [v0, v1, v2, v3] 0 0 fun j hj => ?_⟩
  rw [if_pos ⟨by omega, by simpa using hj⟩]
  have : j = 0 ∨ j = 1 ∨ j = 2 ∨ j = 3 := by omega
  rcases this with rfl | rfl | rfl | rfl <;> rfl

theorem box4_ok (h : Heap) (z0 z1 z2 z3 v0 v1 v2 v3 : Value) (T : TypeId) : WrN (h.push (.cells #[z0, z1, z2, z3] T)) ⟨h.size, 0, none⟩ 4 ∧ New h (setCs (h.push (.cells #[z0, z1, z2, z3] T)) ⟨h.size, 0, none⟩ 0 [v0, v1, v2, v3]) (blkR h.size 4 (f4 v0 v1 v2 v3)) := by
  have N := New.box h #[z0, z1, z2, z3] T
  have B : Blk (h.push (.cells #[z0, z1, z2, z3] T)) h.size 4 (fun j => (#[z0, z1, z2, z3] : Array Value).getD j undef) := N.p
  obtain ⟨a1, a2⟩ := assign4 B v0 v1 v2 v3
  exact ⟨a1, N.stp a2⟩

theorem f3_cells {h : Heap} {b : Nat} {v0 v1 v2 : Value} (B : (blkR b 3 (f3 v0 v1 v2)).P h) : cellAt h ⟨b, 0, none⟩ = some v0 ∧ cellAt h ⟨b, 1, none⟩ = some v1 ∧ cellAt h ⟨b, 2, none⟩ = some v2 :=
  ⟨B.cell (i := 0) (by omega), B.cell (i := 1) (by omega), B.cell (i := 2) (by omega)⟩

theorem f4_cells {h : Heap} {b : Nat} {v0 v1 v2 v3 : Value} (B : (blkR b 4 (f4 v0 v1 v2 v3)).P h) : cellAt h ⟨b, 0, none⟩ = some v0 ∧ cellAt h ⟨b, 1, none⟩ = some v1 ∧ cellAt h ⟨b, 2, none⟩ = some v2 ∧ cellAt h ⟨b, 3, none⟩ = some v3 :=
  ⟨B.cell (i := 0) (by omega), B.cell (i := 1) (by omega), B.cell (i := 2) (by omega), B.cell (i := 3) (by omega)⟩

/-- One region more. -/
def growS (c : Cfg) (st : Sto) : Sto := ⟨st.n + 1, fun o => if o < st.n * c.size then st.M o else 0⟩

/-- The document's space in a variable. -/
abbrev dF (c : Cfg) (n : Nat) (mp : Option Addr) (mc : Nat) : Nat → Value := f4 (.int .u64 c.base) (.int .u64 (c.size : Int)) (.int .i64 c.limit) (.slice mp (n * c.size) mc)

section
variable {w₀ : World} {h : Heap} {s : Nat} {c : Cfg} {Z Y : Nat → Prop} {mp : Option Addr} {mc : Nat} {st : Sto} {K : Value → Heap → Prop}

theorem commit_ok (H : (spR s c Z st).P h) (hl : (st.n : Int) < c.limit) (hK : ∀ (Z' : Nat → Prop) (h' : Heap), Stp h h' (spR s c Z st) (spR s c Z' (growS c st)) → K (.tuple #[.int .u64 (c.base + (st.n * c.size : Nat)), .int .i64 0]) h') :
    CallV Try.prog w₀ F.mem_Space_Commit [.pointer (some ⟨s, 0, none⟩), .bool false] h K := by
  refine mem_Commit_ok H (fun e => ?_) fun _ _ h' u H' => hK _ h' ⟨u, H', fun b e => ?_⟩
  · rcases e with e | e
    · cases e
    · omega
  · rcases e with e | e
    · exact .inl e
    · exact .inr e.1

theorem ref_commit_ok (H : (rsR c mp mc Y st).P h) (hl : (st.n : Int) < c.limit)
    (hK : ∀ (mp' : Option Addr) (mc' : Nat) (Y' : Nat → Prop) (h' : Heap), Stp h h' (rsR c mp mc Y st) (rsR c mp' mc' Y' (growS c st)) → K (.tuple #[rsv c (st.n + 1) mp' mc', .int .u64 (c.base + (st.n * c.size : Nat)), .int .i64 0]) h') :
    CallV Try.prog w₀ F.croftref2_Commit [rsv c st.n mp mc, .bool false] h K := by
  refine ref2_Commit_ok H (fun e => ?_) fun _ _ h' mp' mc' Y' u hY H' => hK mp' mc' Y' h' ⟨u.mono fun _ e _ => e.elim, H', fun b e => .inr (hY b e)⟩
  rcases e with e | e
  · cases e
  · omega

/-- A space, the document's, and the variable that holds it. -/
abbrev BR (s : Nat) (c : Cfg) (Z : Nat → Prop) (mp : Option Addr) (mc : Nat) (Y : Nat → Prop) (b8 : Nat) (st : Sto) : Res := andR (andR (spR s c Z st) (rsR c mp mc Y st)) (blkR b8 4 (dF c st.n mp mc))

def mineP (i : Nat) (lb : Nat → Nat) : Nat → Value := fun j => if j < i then .pointer (some ⟨lb j, 0, none⟩) else .pointer none

/-- So many lists made. -/
abbrev TR (B : Res) (s bm bh i : Nat) (lb : Nat → Nat) : Res := andR B (andR (andR (blkR bm 3 (mineP i lb)) (blkR bh 3 (headF fun _ => 0))) (allR i fun j => lsR s (lb j) 0))

theorem three_start {h0 h : Heap} {B : Res} {T1 T2 : TypeId} (N : New h0 h B) (s : Nat) (lb : Nat → Nat) : New h0 ((h.push (.cells #[.pointer none, .pointer none, .pointer none] T1)).push (.cells #[.int .u64 0, .int .u64 0, .int .u64 0] T2))
    (TR B s h.size (h.push (.cells #[.pointer none, .pointer none, .pointer none] T1)).size 0 lb) := by
  have N1 := New.box h #[.pointer none, .pointer none, .pointer none] T1
  have N2 := New.box (h.push (.cells #[.pointer none, .pointer none, .pointer none] T1)) #[.int .u64 0, .int .u64 0, .int .u64 0] T2
  have N1' := N1.conv (R' := blkR h.size 3 (mineP 0 lb)) (fun P => Blk.congr P fun i hi => by
    have hi : i < 3 := hi
    have : i = 0 ∨ i = 1 ∨ i = 2 := by omega
    rcases this with rfl | rfl | rfl <;> rfl) fun _ e => e
  have N2' := N2.conv (R' := blkR (h.push (.cells #[.pointer none, .pointer none, .pointer none] T1)).size 3 (headF fun _ => 0)) (fun P => Blk.congr P fun i hi => by
    have hi : i < 3 := hi
    have : i = 0 ∨ i = 1 ∨ i = 2 := by omega
    rcases this with rfl | rfl | rfl <;> rfl) fun _ e => e
  refine (N.and (N1'.and N2')).conv (fun P => ⟨P.1, ⟨P.2.1, allR_zero _, fun b e e' => ?_⟩, fun b e e' => ?_⟩) fun b e => ?_
  · obtain ⟨j, hj, _⟩ := e'; omega
  · rcases e' with e' | ⟨j, hj, _⟩
    · exact P.2.2 b e e'
    · omega
  · rcases e with e | e | ⟨j, hj, _⟩
    · exact .inl e
    · exact .inr e
    · omega

theorem three_step {h0 h h' : Heap} {B : Res} {bm bh i nb : Nat} {lb : Nat → Nat} (hi : i < 3) (N0 : New h0 h (TR B s bm bh i lb)) (N : New h h' (lsR s nb 0)) :
    Wr h' ⟨bm, i, none⟩ ∧ New h0 (setC h' ⟨bm, i, none⟩ (.pointer (some ⟨nb, 0, none⟩))) (TR B s bm bh (i + 1) (setf lb i nb)) := by
  have he : ∀ j, j < i → lsR s (lb j) 0 = lsR s (setf lb i nb j) 0 := fun j hj => by rw [setf_ne _ _ (by omega)]
  have hnew : lsR s nb 0 = lsR s (setf lb i nb i) 0 := by rw [setf_same]
  have N1 : New h0 h' (andR B (andR (andR (blkR bm 3 (mineP i lb)) (blkR bh 3 (headF fun _ => 0))) (allR (i + 1) fun j => lsR s (setf lb i nb j) 0))) := by
    have hsub : ∀ b, (allR (i + 1) fun j => lsR s (setf lb i nb j) 0).fp b → (allR i fun j => lsR s (lb j) 0).fp b ∨ (lsR s nb 0).fp b := by
      rintro b ⟨j, hj, e⟩
      have e : (lsR s (setf lb i nb j) 0).fp b := e
      by_cases hji : j = i
      · subst hji; rw [setf_same] at e; exact .inr e
      · rw [setf_ne _ _ hji] at e; exact .inl ⟨j, by omega, e⟩
    refine (N0.and N).conv (fun P => ⟨P.1.1, ⟨P.1.2.1.1, ?_, fun b e e' => ?_⟩, fun b e e' => ?_⟩) fun b e => ?_
    · refine allR_snoc (allR_congr he P.1.2.1.2.1) (by rw [← hnew]; exact P.2.1) fun b e e' => ?_
      rw [← hnew] at e
      exact P.2.2 b (.inr (.inr (allR_fp he b e'))) e
    · rcases hsub b e' with e' | e'
      · exact P.1.2.1.2.2 b e e'
      · exact P.2.2 b (.inr (.inl e)) e'
    · rcases e' with e' | e'
      · exact P.1.2.2 b e (.inl e')
      · rcases hsub b e' with e' | e'
        · exact P.1.2.2 b e (.inr e')
        · exact P.2.2 b (.inl e) e'
    · rcases e with e | e | e
      · exact .inl (.inl e)
      · exact .inl (.inr (.inl e))
      · rcases hsub b e with e | e
        · exact .inl (.inr (.inr e))
        · exact .inr e
  have Bm : Blk h' bm 3 (mineP i lb) := N1.p.2.1.1.1
  have Sm := Stp.set Bm i (.pointer (some ⟨nb, 0, none⟩)) (g := mineP (i + 1) (setf lb i nb)) fun j hj => by
    unfold mineP setf
    by_cases h1 : j = i
    · subst h1; simp
    · rw [if_neg h1]
      by_cases h2 : j < i
      · rw [if_pos h2, if_pos (by omega), if_neg h1]
      · rw [if_neg h2, if_neg (by omega)]
  exact ⟨Bm.wr hi, N1.stp (((Sm.left N1.p.2.1.1).left N1.p.2.1).right N1.p)⟩

/-- All of a play, and the variable that holds the document's space. -/
abbrev FR (W : PW) (b8 : Nat) (σ : PS) : Res := andR (psR W σ) (blkR b8 4 (dF W.c σ.st.n W.mp W.mc))

theorem three_end {h0 h : Heap} {bm bh b8 : Nat} {lb : Nat → Nat} (N : New h0 h (TR (BR s c Z mp mc Y b8 st) s bm bh 3 lb)) : New h0 h (FR ⟨s, c, Z, mp, mc, Y, bm, bh⟩ b8 ⟨lb, fun _ => 0, st⟩) := by
  have em : ∀ j, j < 3 → mineP 3 lb j = mineF lb j := fun j hj => by unfold mineP mineF; rw [if_pos hj]
  refine N.conv (fun P => ⟨⟨⟨P.2.1.2.1, P.1.1.1, fun b e e' => P.2.2 b (.inl (.inl e')) (.inr e)⟩, ⟨⟨Blk.congr P.2.1.1.1 em, P.2.1.1.2.1, P.2.1.1.2.2⟩, P.1.1.2.1, fun b e e' => P.2.2 b (.inl (.inr e')) (.inl e)⟩, fun b e e' => ?_⟩, P.1.2.1, fun b e e' => ?_⟩) fun b e => ?_
  · rcases e with e | e
    · rcases e' with e' | e'
      · exact P.2.1.2.2 b e' e
      · exact P.2.2 b (.inl (.inr e')) (.inr e)
    · rcases e' with e' | e'
      · exact P.2.2 b (.inl (.inl e)) (.inl e')
      · exact P.1.1.2.2 b e e'
  · rcases e with (e | e) | (e | e)
    · exact P.2.2 b (.inr e') (.inr e)
    · exact P.1.2.2 b (.inl e) e'
    · exact P.2.2 b (.inr e') (.inl e)
    · exact P.1.2.2 b (.inr e) e'
  · rcases e with ((e | e) | (e | e)) | e
    · exact .inr (.inr e)
    · exact .inl (.inl (.inl e))
    · exact .inr (.inl e)
    · exact .inl (.inl (.inr e))
    · exact .inl (.inr e)
end
end Go.Proofs.Ytfijahblggnbbaa
