/- Chapter 2's laws over scripts. No condition. -/
import Derived.Test.YtpninapdjcggoaaWF
set_option linter.unusedSimpArgs false
set_option linter.unusedVariables false
namespace Go.Proofs.Ytpninapdjcggoaa
open Go.V Classical

/-- A script that was handed in: its Ops' cells, their numbers and bytes. -/
def OpsAt (h : Heap) (p : Option Addr) (n : Nat) (o : Nat → OpV) : Prop := n = 0 ∨ ∃ b off, p = some ⟨b, off, none⟩ ∧ ∀ i, i < n → ∀ j, j < 9 → cellAt h ⟨b, off + i * 9 + j, none⟩ = some (opf (o i) j)

def Ops (h : Heap) (p : Option Addr) (n c : Nat) : Prop :=
  ∃ (o : Nat → OpV) (g : Nat → Nat → Int), n ≤ c ∧ c < 9223372036854775808 ∧ OpsAt h p n o ∧ ∀ i, i < n → (o i).Ok h (g i) (fun b => h.size ≤ b)

theorem OpV.Ok.sub {o : OpV} {h : Heap} {g : Nat → Int} {S S' : Nat → Prop} (H : o.Ok h g S) (hs : ∀ b, S' b → S b) : o.Ok h g S' :=
  { H with off := H.off.imp id fun e a ha hb => e a ha (hs _ hb) }

theorem OpsAt.upd {h h' : Heap} {p : Option Addr} {n : Nat} {o : Nat → OpV} (H : OpsAt h p n o) (hu : Upd NoB h h') : OpsAt h' p n o := by
  rcases H with e | ⟨b, off, rfl, H⟩
  · exact .inl e
  · exact .inr ⟨b, off, rfl, fun i hi j hj => cellAt_upd (H i hi j hj) hu id⟩

/-- One Op's cells, as a loop reads them. -/
theorem OpsAt.one {h : Heap} {p : Option Addr} {n i : Nat} {o : Nat → OpV} (H : OpsAt h p n o) (hi : i < n) : ∃ b off, p = some ⟨b, off, none⟩ ∧ ∀ h' : Heap, Upd NoB h h' →
    cellAt h' ⟨b, off, none⟩ = cellAt h' ⟨b, off, none⟩ ∧ ∀ j, j < 9 → cellAt h' ⟨b, off + i * 9 + j, none⟩ = some (opf (o i) j) := by
  rcases H with e | ⟨b, off, rfl, H⟩
  · omega
  · exact ⟨b, off, rfl, fun h' hu => ⟨rfl, fun j hj => cellAt_upd (H i hi j hj) hu id⟩⟩

/-- What holds at the head of a script's loop. -/
structure PI (h0 hx : Heap) (s tb cb : Nat) (cf : Nat → Value) (c : Cfg) (n : Nat) (M : Nat → Int) (mp : Option Addr) (mc : Nat) (Z Y : Nat → Prop) : Prop where
  u : Upd NoB h0 hx
  d : Duo hx s c n M mp mc Z Y
  ge : ∀ b, Z b ∨ Y b → h0.size ≤ b
  t : Blk hx tb 4 (hpf c (n * c.size) mp mc)
  cfg : Blk hx cb 3 cf
  nt : ¬ (Z tb ∨ Y tb)
  nc : ¬ (Z cb ∨ Y cb)
  tc : tb ≠ cb
  tg : h0.size ≤ tb
  cg : h0.size ≤ cb

section
variable {w₀ : World} {h h0 : Heap} {s n mc tb cb : Nat} {cf : Nat → Value} {c : Cfg} {M : Nat → Int} {mp : Option Addr} {Z Y : Nat → Prop} {K : Value → Heap → Prop} {o : OpV} {g : Nat → Int}

/-- Behind a call done on both, its answer laid at ub: the variable t set anew. -/
theorem PI.next {hx hz : Heap} {n' : Nat} {M' : Nat → Int} {mp' : Option Addr} {mc' : Nat} {Z' Y' : Nat → Prop} (I : PI h0 hx s tb cb cf c n M mp mc Z Y)
    (uz : Upd (fun b => Z b ∨ Y b) hx hz) (D : Duo hz s c n' M' mp' mc' Z' Y') (gz : ∀ b, Z' b → Z b ∨ hx.size ≤ b) (gy : ∀ b, Y' b → Y b ∨ hx.size ≤ b) :
    WrN hz ⟨tb, 0, none⟩ 4 ∧ PI h0 (setCs hz ⟨tb, 0, none⟩ 0 [.int .u64 c.base, .int .u64 (c.size : Int), .int .i64 c.limit, .slice mp' (n' * c.size) mc']) s tb cb cf c n' M' mp' mc' Z' Y' := by
  have T := I.t.upd uz I.nt
  have C := I.cfg.upd uz I.nc
  have ht := I.t.lt
  have hc := I.cfg.lt
  have hs := I.u.1
  obtain ⟨r1, r2, r3, r4, r5, r6⟩ := res4 T (.int .u64 c.base) (.int .u64 (c.size : Int)) (.int .i64 c.limit) (.slice mp' (n' * c.size) mc')
  have nt : ¬ (Z' tb ∨ Y' tb) := by
    rintro (e | e)
    · rcases gz _ e with e | e
      · exact I.nt (.inl e)
      · omega
    · rcases gy _ e with e | e
      · exact I.nt (.inr e)
      · omega
  have nc : ¬ (Z' cb ∨ Y' cb) := by
    rintro (e | e)
    · rcases gz _ e with e | e
      · exact I.nc (.inl e)
      · omega
    · rcases gy _ e with e | e
      · exact I.nc (.inr e)
      · omega
  refine ⟨r1, { u := ?_, d := D.upd r6 (fun b hb e => nt (.inl (e ▸ hb))) (fun b hb e => nt (.inr (e ▸ hb))), ge := ?_, t := ?_, cfg := C.upd r6 (Ne.symm I.tc), nt := nt, nc := nc, tc := I.tc, tg := I.tg, cg := I.cg }⟩
  · exact (I.u.nx uz fun b e hb => absurd (I.ge b e) (by omega)).nx r6 fun b e hb => absurd hb (by have := I.tg; omega)
  · rintro b (e | e)
    · rcases gz _ e with e | e
      · exact I.ge b (.inl e)
      · omega
    · rcases gy _ e with e | e
      · exact I.ge b (.inr e)
      · omega
  · refine (T.sets _ 0 0).congr fun j hj => ?_
    have : j = 0 ∨ j = 1 ∨ j = 2 ∨ j = 3 := by omega
    rcases this with rfl | rfl | rfl | rfl <;> rfl

end
end Go.Proofs.Ytpninapdjcggoaa
