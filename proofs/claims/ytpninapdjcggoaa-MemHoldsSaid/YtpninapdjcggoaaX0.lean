/- From a walk over heaps to the row's step: the arguments read as they did. No condition. -/
import Derived.Test.YtpninapdjcggoaaW1
import Derived.Carry
import Derived.ProofKit
set_option linter.unusedVariables false
namespace Go.V
open Go.RowKit

theorem below_of_upd {w : World} {h' : Heap} {n' : Nat} (H : Upd (fun _ => False) w.heap h') : Below w.heap.size w (on w h' n') :=
  ⟨rfl, rfl, rfl, H.1, fun k hk => H.2.1 k hk id⟩

theorem trodAll_stays {H : Type} {enc : TypeId × Value → H} {P : Program} (hl : laidOutB P = true) {W W' : World} (hb : Below W.heap.size W W') {sp : Nat → Bool} :
    ∀ {ts : List TypeId} {vs : List Value} {ds : List (DataW H)} {ps : List MemPlace}, (ts.all fun t => P.readableRec t && decide (t < P.types.size)) = true →
      DataW.TrodAll enc P W 0 (fun _ => true) true ts vs ds ps → (∀ x ∈ ps, x.block < W.heap.size) → (∀ x ∈ ps, sp x.block = true) → DataW.TrodAll enc P W' 0 sp true ts vs ds ps
  | [], [], [], _, _, h, _, _ => h
  | t :: ts, v :: vs, d :: ds, ps, ht, h, hlt, hsp => by
    obtain ⟨p, q, h1, h2, rfl⟩ := h
    simp only [List.all_cons, Bool.and_eq_true, decide_eq_true_eq] at ht
    exact ⟨p, q, WideElems.Trod_stays hl ht.1.1 ht.1.2 h1 (fun x hx => hb.same (hlt x (List.mem_append_left _ hx))) (fun x hx => hsp x (List.mem_append_left _ hx)),
      trodAll_stays hl hb ht.2 h2 (fun x hx => hlt x (List.mem_append_right _ hx)) (fun x hx => hsp x (List.mem_append_right _ hx)), rfl⟩
  | [], [], _ :: _, _, _, h, _, _ => h.elim
  | [], _ :: _, _, _, _, h, _, _ => h.elim
  | _ :: _, [], _, _, _, h, _, _ => h.elim
  | _ :: _, _ :: _, [], _, _, h, _, _ => h.elim

/-- Out of a call over heaps: it answers true; the world has at most new blocks. -/
theorem calls_of_callV' {P : Program} {w : World} {f : FuncId} {args : List Value} (H : CallV P w f args w.heap fun v h' => v = .bool true ∧ Upd (fun _ => False) w.heap h') :
    Calls P f args.toArray w fun e w' => e = .returned (.bool true) ∧ Grown w w' ∧ Below w.heap.size w w' := by
  have := H w.drawn
  rw [on_self] at this
  refine this.mono ?_
  rintro e w' ⟨h', n', rfl, hq⟩
  cases e with
  | returned v => exact ⟨by rw [hq.1], grown_of_upd hq.2, below_of_upd hq.2⟩
  | panicked c => exact hq.elim
  | outgrown => exact hq.elim

end Go.V
