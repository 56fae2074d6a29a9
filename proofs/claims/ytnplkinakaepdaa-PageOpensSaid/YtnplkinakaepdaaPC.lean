/- Chapter 4's laws over scripts of calls: the common parts. No condition. -/
import Derived.Test.YtnplkinakaepdaaPA
import Derived.Test.YtnplkinakaepdaaX3
set_option linter.unusedSimpArgs false
set_option linter.unusedVariables false
namespace Go.Proofs.Ytnplkinakaepdaa
open Go.V Classical

/-- Calls that are handed in. -/
def PoAt (h : Heap) (p : Option Addr) (n : Nat) (o : Nat → PO) : Prop := n = 0 ∨ ∃ b off, p = some ⟨b, off, none⟩ ∧ ∀ i, i < n → ∀ j, j < 5 → cellAt h ⟨b, off + i * 5 + j, none⟩ = some (pof (o i) j)

def POps (h : Heap) (p : Option Addr) (n c : Nat) : Prop := ∃ o : Nat → PO, n ≤ c ∧ c < 9223372036854775808 ∧ PoAt h p n o ∧ ∀ i, i < n → (o i).Ok

def poTy : Nat → TypeDesc
  | 4 => .bool
  | _ => .int .i64

theorem poRow {H : Type} {enc : TypeId × Value → H} {W : World} {t e : TypeId} {fs : Array Field} {p : Option Addr} {n c : Nat} {d : DataW H} {ps : List MemPlace} (ht : Try.prog.underlying t = some (.slice e)) (he : Try.prog.underlying e = some (.struct fs)) (hm : fs.size = 5) (hce : Try.prog.cellsOf e = 5)
    (hf : ∀ j, j < 5 → ∃ f, fs[j]? = some f ∧ f.offset = j ∧ Try.prog.cellsOf f.type = 1 ∧ Try.prog.underlying f.type = some (poTy j))
    (h : DataW.Trod enc Try.prog W 0 (fun _ => true) true t (.slice p n c) d ps) : POps W.heap p n c := by
  obtain ⟨h1, h2, h3⟩ := structRow ht he hm (by decide) hce hf h
  rcases h3 with h0 | ⟨b, off, rfl, hc⟩
  · exact ⟨fun _ => ⟨0, 0, 0, 0, false⟩, h1, h2, .inl h0, fun i hi => absurd hi (by omega)⟩
  · have each : ∀ i, ∃ o : PO, i < n → (∀ j, j < 5 → cellAt W.heap ⟨b, off + i * 5 + j, none⟩ = some (pof o j)) ∧ o.Ok := by
      intro i
      by_cases hi : i < n
      · obtain ⟨v0, c0, z0, rfl, w0⟩ := hc i hi 0 (by omega)
        obtain ⟨v1, c1, z1, rfl, w1⟩ := hc i hi 1 (by omega)
        obtain ⟨v2, c2, z2, rfl, w2⟩ := hc i hi 2 (by omega)
        obtain ⟨v3, c3, z3, rfl, w3⟩ := hc i hi 3 (by omega)
        obtain ⟨v4, c4, b4, rfl⟩ := hc i hi 4 (by omega)
        have bd : ∀ {z : Int}, (Lit.int .i64 z).wf = true → bd63 z := fun w => by have := Go.bounds_i64 w; unfold bd63; omega
        refine ⟨⟨z0, z1, z2, z3, b4⟩, fun _ => ⟨fun j hj => ?_, ⟨bd w0, bd w1, bd w2, bd w3⟩⟩⟩
        have : j = 0 ∨ j = 1 ∨ j = 2 ∨ j = 3 ∨ j = 4 := by omega
        rcases this with rfl | rfl | rfl | rfl | rfl <;> assumption
      · exact ⟨⟨0, 0, 0, 0, false⟩, fun e => absurd e hi⟩
    refine ⟨fun i => (each i).choose, h1, h2, .inr ⟨b, off, rfl, fun i hi => ((each i).choose_spec hi).1⟩, fun i hi => ((each i).choose_spec hi).2⟩

theorem poArg {H : Type} {enc : TypeId × Value → H} {W : World} {r : Reach} {b0 : Nat} {t : TypeId} {fs : Array Field} {v : Value} {d : DataW H} {ps : List MemPlace} (hs : Try.prog.underlying t = some (.struct fs)) (hm : fs.size = 5) (hC : Try.prog.cellsOf t = 5)
    (hf : ∀ j, j < 5 → ∃ f, fs[j]? = some f ∧ f.offset = j ∧ Try.prog.cellsOf f.type = 1 ∧ Try.prog.underlying f.type = some (poTy j))
    (hv : Value.okWide Try.prog W r b0 t v) (h : DataW.Trod enc Try.prog W 0 (fun _ => true) true t v d ps) : ∃ e : PO, v = pov e ∧ e.Ok := by
  obtain ⟨cs, rfl, hl, hc⟩ := structArg hs hm hC hf hv h
  obtain ⟨v0, c0, z0, rfl, w0⟩ := hc 0 (by omega)
  obtain ⟨v1, c1, z1, rfl, w1⟩ := hc 1 (by omega)
  obtain ⟨v2, c2, z2, rfl, w2⟩ := hc 2 (by omega)
  obtain ⟨v3, c3, z3, rfl, w3⟩ := hc 3 (by omega)
  obtain ⟨v4, c4, b4, rfl⟩ := hc 4 (by omega)
  have bd : ∀ {z : Int}, (Lit.int .i64 z).wf = true → bd63 z := fun w => by have := Go.bounds_i64 w; unfold bd63; omega
  refine ⟨⟨z0, z1, z2, z3, b4⟩, ?_, ⟨bd w0, bd w1, bd w2, bd w3⟩⟩
  have : cs.toList = [.int .i64 z0, .int .i64 z1, .int .i64 z2, .int .i64 z3, .bool b4] := by
    apply List.ext_getElem?
    intro i
    rcases Nat.lt_or_ge i 5 with hi | hi
    · have : i = 0 ∨ i = 1 ∨ i = 2 ∨ i = 3 ∨ i = 4 := by omega
      rcases this with rfl | rfl | rfl | rfl | rfl <;> assumption
    · rw [List.getElem?_eq_none (by omega), List.getElem?_eq_none (by simpa using hi)]
  have : cs = #[.int .i64 z0, .int .i64 z1, .int .i64 z2, .int .i64 z3, .bool b4] := Array.toList_inj.1 this
  rw [this]

theorem PoAt.one {h : Heap} {p : Option Addr} {n i : Nat} {o : Nat → PO} (H : PoAt h p n o) (hi : i < n) : ∃ b off, p = some ⟨b, off, none⟩ ∧ ∀ h' : Heap, Upd NoB h h' → ∀ j, j < 5 → cellAt h' ⟨b, off + i * 5 + j, none⟩ = some (pof (o i) j) := by
  rcases H with e | ⟨b, off, rfl, H⟩
  · omega
  · exact ⟨b, off, rfl, fun h' hu j hj => cellAt_upd (H i hi j hj) hu id⟩

theorem mq_pageS2 {h : Heap} {gp : Option Addr} {n gc : Nat} {pg : Nat → Nat → Int} (H : (slR gp n gc 11 (pgF pg)).P h) {i : Nat} (hi : i < n) : ∃ b, gp = some ⟨b, 0, none⟩ ∧ ∀ j, j < 11 → cellAt h ⟨b, i * 11 + j, none⟩ = some (pcl j (pg i j)) := by
  obtain ⟨b, g, e, B, hc, hg⟩ := sl_some H (by omega)
  have hcz := Nat.mul_le_mul_right 11 hc
  refine ⟨b, e, fun j hj => ?_⟩
  rw [B.cell (by omega), hg _ (by omega), pgF_at _ hj]

/-- The calls one after the other. -/
noncomputable def runs (o : Nat → PO) (s : MS) : Nat → MS
  | 0 => s
  | k + 1 => (mCall (runs o s k) (o k)).1

theorem runs_ok {o : Nat → PO} {s : MS} (H : s.Ok) : ∀ {k : Nat}, (∀ i, i < k → (o i).Ok) → (runs o s k).Ok
  | 0, _ => H
  | k + 1, h => mCall_ok (runs_ok H fun i hi => h i (by omega)) (h k (by omega))

theorem runs_o (o : Nat → PO) (s : MS) : ∀ k, (runs o s k).o = s.o
  | 0 => rfl
  | k + 1 => by rw [runs, mCall_o, runs_o o s k]

section
variable {w₀ : World} {h : Heap} {K : Value → Heap → Prop}

theorem LD5 {h : Heap} {b off : Nat} {o : PO} (H : ∀ j, j < 5 → cellAt h ⟨b, off + j, none⟩ = some (pof o j)) {X : Int → Int → Int → Int → Bool → Prop} (x : X o.kind o.page o.x o.y o.live) :
    ∃ n0 : Int, cellAt h ⟨b, off, none⟩ = some (.int .i64 n0) ∧ ∃ n1 : Int, cellAt h ⟨b, off + 1, none⟩ = some (.int .i64 n1) ∧ ∃ n2 : Int, cellAt h ⟨b, off + 2, none⟩ = some (.int .i64 n2) ∧ ∃ n3 : Int, cellAt h ⟨b, off + 3, none⟩ = some (.int .i64 n3) ∧ ∃ n4 : Bool, cellAt h ⟨b, off + 4, none⟩ = some (.bool n4) ∧ X n0 n1 n2 n3 n4 :=
  ⟨_, H 0 (by omega), _, H 1 (by omega), _, H 2 (by omega), _, H 3 (by omega), _, H 4 (by omega), x⟩

theorem SamePages_ok {p q : Option Addr} {n m cp cq : Nat} {f g : Nat → Nat → Int} (hn : n < 9223372036854775808) (hp : Row h p (n * 11) (pgF f)) (hq : Row h q (m * 11) (pgF g))
    (hK : ∀ b : Bool, (b = true ↔ (n = m ∧ ∀ i, i < n → ∀ j, j < 11 → f i j = g i j)) → K (.bool b) h) : CallV Try.prog w₀ F.croftref4_SamePages [.slice p n cp, .slice q m cq] h K := by
  refine croftref4_SamePages.call ?_
  unfold croftref4_SamePages.vc
  refine ⟨fun e => hK false ⟨fun e => (by cases e), fun e' => ?_⟩, fun e => ?_⟩
  · simp only [bne_iff_ne, ne_eq] at e; have := e'.1; omega
  have hnm : n = m := by simp only [bne_eq_false_iff_eq] at e; omega
  subst hnm
  intro J k L hL
  have loop : ∀ (r i : Nat), i + r = n → (∀ a, a < i → ∀ j, j < 11 → f a j = g a j) → L [.slice p n cp, .slice q n cq, .int .i64 (i : Int)] h := by
    intro r
    induction r with
    | zero =>
      intro i hi ha
      have : i = n := by omega
      subst this
      exact hL _ _ _ _ _ _ _ _ (iF (by simp) (k _ (hK true ⟨fun _ => ⟨rfl, ha⟩, fun _ => rfl⟩)))
    | succ r ih =>
      intro i hi ha
      obtain ⟨b, o, eb, hc⟩ := row_page hp (i := i) (by omega)
      obtain ⟨b', o', eb', hc'⟩ := row_page hq (i := i) (by omega)
      have e1 : IntKind.wrap .i64 ((i : Int) + 1) = ((i + 1 : Nat) : Int) := by rw [IntKind.wrap_i64]; omega
      refine hL _ _ _ _ _ _ _ _ (iT (by simp; omega) ?_)
      rw [eb, eb']
      simp only [jor, jand, cellAt_new, add_mk, List.getElem?_toArray, Nat.zero_add, List.getElem?_cons_zero, List.getElem?_cons_succ, Option.some.injEq, Value.int.injEq, Value.bool.injEq, Value.pointer.injEq, Value.slice.injEq, true_and, and_true, exists_eq_left', exists_eq', and_assoc, exists_and_left, Int.toNat_natCast]
      refine ⟨by omega, by omega, ld_page hc ⟨by omega, by omega, ld_page hc' ?_⟩⟩
      rw [eq_page]
      refine ⟨fun e => hK false ⟨fun e' => (by cases e'), fun e' => ?_⟩, fun e => ?_⟩
      · simp only [Bool.not_eq_true', decide_eq_false_iff_not] at e
        exact absurd (e'.2 i (by omega)) e
      · simp only [Bool.not_eq_false', decide_eq_true_eq] at e
        rw [e1, ← eb, ← eb']
        refine ih (i + 1) (by omega) fun a ha' => ?_
        rcases Nat.lt_or_ge a i with hl | hl
        · exact ha a hl
        · rw [show a = i by omega]; exact e
  exact loop n 0 (by omega) fun a ha => absurd ha (by omega)

end
end Go.Proofs.Ytnplkinakaepdaa
