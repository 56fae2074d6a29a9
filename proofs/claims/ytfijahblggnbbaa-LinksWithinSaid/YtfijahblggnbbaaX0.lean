/- From a walk over heaps to the row's step: the arguments read as they did. No condition. -/
import Derived.Test.YtfijahblggnbbaaW1
import Derived.Carry
import Derived.ProofKit
import Derived.OpenShut
set_option linter.unusedVariables false
namespace Go.V
open Go.RowKit

theorem below_of_upd {w : World} {h' : Heap} {n' : Nat} (H : Upd (fun _ => False) w.heap h') : Below w.heap.size w (on w h' n') :=
  ⟨rfl, rfl, rfl, H.1, fun k hk => H.2.1 k hk id⟩

theorem trodAll_stays {H : Type} {enc : TypeId × Value → H} {P : Program} (hl : laidOutB P = true) {W W' : World} (hb : Below W.heap.size W W') {sp : Nat → Bool} :
    ∀ {ts : List TypeId} {vs : List Value} {ds : List (DataW H)} {ps : List MemPlace}, (ts.all fun t => P.readableRec t && decide (t < P.types.size)) = true →
      DataW.TrodAll enc P W 0 (fun _ => true) true ts vs ds ps → (∀ x ∈ ps, x.block < W.heap.size) → (∀ x ∈ ps, sp x.block = true) → DataW.TrodAll enc P W' 0 sp true ts vs ds ps
  | [], [], [], _, _, h, _, _ => h
  | t :: ts, v :: vs, d :: ds, ps, ht, h, hlt, hsp => by
    obtain ⟨p, q, h1, h2, rfl⟩ := h
    simp only [List.all_cons, Bool.and_eq_true, decide_eq_true_eq] at ht
    exact ⟨p, q, WideElems.Trod_stays hl ht.1.1 ht.1.2 h1 (fun x hx => hb.same (hlt x (List.mem_append_left _ hx))) (fun x hx => hsp x (List.mem_append_left _ hx)),
      trodAll_stays hl hb ht.2 h2 (fun x hx => hlt x (List.mem_append_right _ hx)) (fun x hx => hsp x (List.mem_append_right _ hx)), rfl⟩
  | [], [], _ :: _, _, _, h, _, _ => h.elim
  | [], _ :: _, _, _, _, h, _, _ => h.elim
  | _ :: _, [], _, _, _, h, _, _ => h.elim
  | _ :: _, _ :: _, [], _, _, h, _, _ => h.elim

/-- Out of a call over heaps: it answers true; the world has at most new blocks. -/
theorem calls_of_callV' {P : Program} {w : World} {f : FuncId} {args : List Value} (H : CallV P w f args w.heap fun v h' => v = .bool true ∧ Upd (fun _ => False) w.heap h') :
    Calls P f args.toArray w fun e w' => e = .returned (.bool true) ∧ Grown w w' ∧ Below w.heap.size w w' := by
  have := H w.drawn
  rw [on_self] at this
  refine this.mono ?_
  rintro e w' ⟨h', n', rfl, hq⟩
  cases e with
  | returned v => exact ⟨by rw [hq.1], grown_of_upd hq.2, below_of_upd hq.2⟩
  | panicked c => exact hq.elim
  | outgrown => exact hq.elim

/-- A slice of numbers of kind k that was handed in: its cells up to its room. -/
def SRow (h : Heap) (k : IntKind) (p : Option Addr) (n c : Nat) : Prop :=
  ∃ f : Nat → Int, n ≤ c ∧ c < 9223372036854775808 ∧ Row h p c (fun i => .int k (f i)) ∧ ∀ i, i < c → (Lit.int k (f i)).wf = true

theorem byteRow {H : Type} {enc : TypeId × Value → H} {P : Program} {W : World} {t e : TypeId} {k : IntKind} {p : Option Addr} {n c : Nat} {d : DataW H} {ps : List MemPlace}
    (ht : P.underlying t = some (.slice e)) (he : P.underlying e = some (.int k)) (hc : P.cellsOf e = 1) (h : DataW.Trod enc P W 0 (fun _ => true) true t (.slice p n c) d ps) : SRow W.heap k p n c := by
  obtain ⟨fuel, hf⟩ := h
  rcases ChangeShapes.open_ints ht he hc hf with ⟨hcs, hx⟩ | ⟨a, len', cap', zs, hcs, _, hl, hm, hz, hx, hcell, hwz⟩
  · simp only [Value.cells, List.cons.injEq, Value.slice.injEq, and_true] at hcs
    obtain ⟨rfl, rfl, rfl⟩ := hcs
    exact ⟨fun _ => 0, Nat.le_refl _, by decide, .inl rfl, fun i hi => absurd hi (by omega)⟩
  · simp only [Value.cells, List.cons.injEq, Value.slice.injEq, and_true] at hcs
    obtain ⟨rfl, rfl, rfl⟩ := hcs
    simp only [if_true] at hz
    refine ⟨fun i => zs.getD i 0, hl, ?_, ?_, fun i hi => hwz _ ?_⟩
    · have : maxLen = 9223372036854775807 := rfl
      omega
    · rcases Nat.eq_zero_or_pos c with h0 | h0
      · exact .inl h0
      · have h1 := hcell 0 (by omega)
        have hs : a.spot = none := by
          have hadd : a.add 0 = a := by simp [Addr.add]
          rw [hadd] at h1
          have h1' : cellAt W.heap a = some _ := h1
          obtain ⟨_, _, _, _, hs, _⟩ := cellAt_block (h := W.heap) (a := a) (by rw [h1']; rfl)
          exact hs
        obtain ⟨ab, ao, asp⟩ := a
        simp only at hs
        subst hs
        refine .inr ⟨ab, ao, rfl, fun i hi => ?_⟩
        have := hcell i (by omega)
        rw [add_mk] at this
        exact this
    · have : i < zs.length := by omega
      simp [List.getD_eq_getElem?_getD, this]

theorem SRow.u8 {h : Heap} {p : Option Addr} {n cp : Nat} (H : SRow h .u8 p n cp) : ∃ f : Nat → Int, n ≤ cp ∧ cp < 9223372036854775808 ∧ Row h p cp (fun i => .int .u8 (f i)) ∧ ∀ i, i < cp → 0 ≤ f i ∧ f i < 256 := by
  obtain ⟨f, h1, h2, h3, h4⟩ := H
  exact ⟨f, h1, h2, h3, fun i hi => by have := Go.bounds_u8 (h4 i hi); omega⟩

theorem Row.take {h : Heap} {p : Option Addr} {n m : Nat} {f : Nat → Value} (H : Row h p n f) (hm : m ≤ n) : Row h p m f := by
  rcases H with e | ⟨b, o, rfl, H⟩
  · exact .inl (by omega)
  · exact .inr ⟨b, o, rfl, fun i hi => H i (by omega)⟩

/-- A row that was there lies in none of the new blocks. -/
theorem Row.off {Z : Nat → Prop} {h0 : Heap} {p : Option Addr} {n : Nat} {f : Nat → Value} (H : Row h0 p n f) (hz : ∀ b, Z b → h0.size ≤ b) : n = 0 ∨ Off Z p := by
  rcases H with e | ⟨b, o, rfl, H⟩
  · exact .inl e
  · rcases Nat.eq_zero_or_pos n with hn | hn
    · exact .inl hn
    · refine .inr fun a ha => ?_
      cases ha
      intro hb
      have h1 := H 0 hn
      obtain ⟨_, _, _, hb', _, _⟩ := cellAt_block (h := h0) (a := ⟨b, o + 0, none⟩) (by rw [h1]; rfl)
      have := (Array.getElem?_eq_some_iff.1 hb').1
      have := hz b hb
      simp only at *
      omega

/-- s[0:m], m not over its room. -/
theorem slice_front {p : Option Addr} {c : Nat} {h : Heap} {n : Nat} {f : Nat → Value} (H : Row h p n f) : Row h (if c = Int.toNat (0 : Int) then p else Option.map (fun b => Addr.add b (Int.toNat (0 : Int) * 1)) p) n f := by
  split
  · exact H
  · rcases H with e | ⟨b, o, rfl, H⟩
    · exact .inl e
    · exact .inr ⟨b, o, by simp, H⟩


end Go.V
