/- Chapter 2's law MemRefused: a call done on a space. No condition. -/
import Derived.Test.YtpninapdjcggoaaWH
import Derived.Test.YtpninapdjcggoaaH0
set_option linter.unusedSimpArgs false
set_option linter.unusedVariables false
namespace Go.Proofs.Ytpninapdjcggoaa
open Go.V Classical

/-- A space. -/
def spR (s : Nat) (c : Cfg) (n : Nat) (M : Nat → Int) (Z : Nat → Prop) : Res := ⟨Z, fun h => Sp h s c n M Z, fun H hu hs => H.upd hu hs, fun H => H.lt⟩

section
variable {w₀ : World} {h : Heap} {s n : Nat} {c : Cfg} {M : Nat → Int} {Z : Nat → Prop} {K : Value → Heap → Prop} {o : OpV} {g : Nat → Int}

theorem wrap_u64_bd (x : Int) : 0 ≤ IntKind.wrap .u64 x ∧ IntKind.wrap .u64 x < 18446744073709551616 := by rw [IntKind.wrap_u64]; omega
theorem wrap_u8_bd (x : Int) : 0 ≤ IntKind.wrap .u8 x ∧ IntKind.wrap .u8 x < 256 := by rw [IntKind.wrap_u8]; omega

set_option maxHeartbeats 1000000 in
theorem act_ok {b : Int} (ho : o.Ok h g Z) (H : Sp h s c n M Z)
    (hK : ∀ (h' : Heap) (n' : Nat) (M' : Nat → Int) (Z' : Nat → Prop) (e : Int), Stp h h' (spR s c n M Z) (spR s c n' M' Z') → (e ≠ 0 ∨ o.kind = 3 ∨ o.kind = 5 ∨ o.kind = 9 → n' = n ∧ M' = M) → K (.int .i64 e) h') :
    CallV Try.prog w₀ F.croftlaw2_act [.pointer (some ⟨s, 0, none⟩), .int .u64 b, opv o] h K := by
  refine croftlaw2_act.call ?_
  unfold croftlaw2_act.vc
  let h1 : Heap := Array.push h (.cells #[.int .i64 o.kind, .int .u64 o.P, .int .u64 o.Q, .int .u64 o.N, .bool o.A, .int .u64 o.V, .bool o.deny, .int .i64 o.count, .slice o.dp o.dn o.dc] T.T_croftlaw2_Op)
  have u1 : Upd NoB h h1 := push_upd _ _ _
  have B : Blk h1 h.size 9 (opf o) := Blk.new' _ _ _ _ _ rfl fun j hj => by
    have : j = 0 ∨ j = 1 ∨ j = 2 ∨ j = 3 ∨ j = 4 ∨ j = 5 ∨ j = 6 ∨ j = 7 ∨ j = 8 := by omega
    rcases this with rfl | rfl | rfl | rfl | rfl | rfl | rfl | rfl | rfl <;> rfl
  have H1 := H.upd u1 fun _ _ => id
  have ho1 := ho.upd u1 fun _ e => e.elim
  simp only [add_mk, Nat.zero_add]
  refine ⟨_, B.cell (i := 1) (by omega), _, B.cell (i := 2) (by omega), ?_⟩
  intro J2 k2
  have go : ∀ p q : Int, 0 ≤ p ∧ p < 18446744073709551616 → 0 ≤ q ∧ q < 18446744073709551616 → J2 [.pointer (some ⟨s, 0, none⟩), .pointer (some ⟨h.size, 0, none⟩), .int .u64 p, .int .u64 q] h1 := by
    intro p q hp hq
    refine k2 _ _ _ _ _ ?_
    intro J3 k3
    refine ⟨_, B.cell (i := 0) (by omega), ?_⟩
    simp only [add_mk, Nat.zero_add]
    have fin : ∀ (h' : Heap) (n' : Nat) (M' : Nat → Int) (Z' : Nat → Prop) (e : Int), Stp h1 h' (spR s c n M Z) (spR s c n' M' Z') → (e ≠ 0 ∨ o.kind = 3 ∨ o.kind = 5 ∨ o.kind = 9 → n' = n ∧ M' = M) → J3 [.int .i64 e] h' :=
      fun h' n' M' Z' e A he => k3 _ _ (hK h' n' M' Z' e (Stp.trans (Stp.quiet (R := spR s c n M Z) H u1) A) he)
    have same : ∀ (h' : Heap) (e : Int), Upd NoB h1 h' → J3 [.int .i64 e] h' := fun h' e u => fin h' n M Z e (Stp.quiet (R := spR s c n M Z) H1 u) fun _ => ⟨rfl, rfl⟩
    have to : ∀ (h' : Heap) (M' : Nat → Int), ¬ (o.kind = 3 ∨ o.kind = 5 ∨ o.kind = 9) → Upd Z h1 h' → Sp h' s c n M' Z → J3 [.int .i64 0] h' := fun h' M' hk u S => fin h' n M' Z 0 ⟨u, S, fun _ e => .inl e⟩ fun e => by omega
    refine ⟨fun e1 => ?_, fun e1 => ⟨fun e2 => ?_, fun e2 => ⟨fun e3 => ?_, fun e3 => ⟨fun e4 => ?_, fun e4 => ⟨fun e5 => ?_, fun e5 => ⟨fun e6 => ?_, fun e6 => ⟨fun e7 => ?_, fun e7 => ⟨fun e8 => ?_, fun e8 => ⟨fun e9 => ?_, fun e9 => ⟨fun e10 => ?_, fun e10 => ?_⟩⟩⟩⟩⟩⟩⟩⟩⟩⟩ <;> simp only [beq_iff_eq, beq_eq_false_iff_ne, ne_eq] at *
    · refine ⟨_, B.cell (i := 6) (by omega), mem_Commit_ok H1 (fun _ => ⟨_, _, rfl, same _ _ (Upd.refl _ _)⟩) fun _ _ h' u S => ⟨_, _, rfl, fin h' _ _ _ 0 ⟨u, S, fun x e => e.imp id (·.1)⟩ fun e => by omega⟩⟩
    · refine ⟨_, B.cell (i := 7) (by omega), mem_Decommit_ok ho.count H1 (fun _ => ⟨_, rfl, same _ _ (Upd.refl _ _)⟩) fun m _ _ h' u _ S => ⟨_, rfl, fin h' _ _ _ 0 ⟨u, S, fun x e => .inl e⟩ fun e => by omega⟩⟩
    · exact mem_Byte_ok hp H1 (fun _ h' u => ⟨_, _, rfl, same _ _ u⟩) fun _ h' u => ⟨_, _, rfl, same _ _ u⟩
    · exact ⟨_, B.cell (i := 5) (by omega), mem_SetByte_ok hp (wrap_u8_bd _) H1 (fun _ h' u S => ⟨_, rfl, to _ _ (by omega) u S⟩) fun _ h' u => ⟨_, rfl, same _ _ u⟩⟩
    · exact mem_Word_ok hp H1 (fun _ h' u => ⟨_, _, rfl, same _ _ u⟩) fun _ h' u => ⟨_, _, rfl, same _ _ u⟩
    · exact ⟨_, B.cell (i := 5) (by omega), mem_SetWord_ok hp ho.V H1 (fun _ h' u S => ⟨_, rfl, to _ _ (by omega) u S⟩) fun _ h' u => ⟨_, rfl, same _ _ u⟩⟩
    · exact ⟨_, B.cell (i := 3) (by omega), _, B.cell (i := 5) (by omega), mem_Fill_ok hp ho.N (wrap_u8_bd _) H1 (fun _ h' u S => ⟨_, rfl, to _ _ (by omega) u S⟩) fun _ h' u => ⟨_, rfl, same _ _ u⟩⟩
    · exact ⟨_, B.cell (i := 3) (by omega), mem_Copy_ok hp hq ho.N H1 (fun _ _ h' u S => ⟨_, rfl, to _ _ (by omega) u S⟩) fun _ h' u => ⟨_, rfl, same _ _ u⟩⟩
    · exact ⟨_, B.cell (i := 3) (by omega), mem_Read_ok hp ho.N H1 (fun _ h' bb u _ _ => ⟨_, _, _, _, rfl, same _ _ u⟩) fun _ h' u => ⟨_, _, _, _, rfl, same _ _ u⟩⟩
    · exact ⟨_, _, _, B.cell (i := 8) (by omega), mem_Write_ok hp (by have := ho.dc; omega) ho.dc.1 H1 ho1.row ho.by8 ho.off (fun _ h' u S => ⟨_, rfl, to _ _ (by omega) u S⟩) fun _ h' u => ⟨_, rfl, same _ _ u⟩⟩
    · exact same _ _ (Upd.refl _ _)
  exact ⟨_, B.cell (i := 4) (by omega), fun _ => go _ _ (wrap_u64_bd _) (wrap_u64_bd _), fun _ => go _ _ ho.P ho.Q⟩

end
end Go.Proofs.Ytpninapdjcggoaa
