/- Chapter 6's calls that are handed in, out of their reading. No condition. -/
import Derived.Test.YtippbfnhgooepaaZC0
import Derived.Test.YtippbfnhgooepaaZX3
set_option linter.unusedVariables false
set_option linter.unusedSimpArgs false
namespace Go.Proofs.Ytippbfnhgooepaa
open Go.V Go.RowKit

structure O6 where
  kind : Int
  order : Int
  which : Int
  more : Int
  deny : Bool
  at' : Int
  dp : Option Addr
  dn : Nat
  dc : Nat
  g : Nat → Int

def O6.f (o : O6) : Nat → Value
  | 0 => .int .i64 o.kind
  | 1 => .int .i64 o.order
  | 2 => .int .i64 o.which
  | 3 => .int .i64 o.more
  | 4 => .bool o.deny
  | 5 => .int .u64 o.at'
  | _ => .slice o.dp o.dn o.dc

structure O6.Ok (o : O6) (h : Heap) : Prop where
  o1 : -9223372036854775808 ≤ o.order ∧ o.order ≤ 9223372036854775807
  o2 : -9223372036854775808 ≤ o.which ∧ o.which ≤ 9223372036854775807
  o3 : -9223372036854775808 ≤ o.more ∧ o.more ≤ 9223372036854775807
  a : U64 o.at'
  dc : o.dn ≤ o.dc ∧ o.dc < 9223372036854775808
  row : Row h o.dp o.dn (fun i => .int .u8 (o.g i))
  by8 : ∀ x, x < o.dn → 0 ≤ o.g x ∧ o.g x < 256
  off : o.dn = 0 ∨ Off (fun b => h.size ≤ b) o.dp

def o60 : O6 := ⟨0, 0, 0, 0, false, 0, none, 0, 0, fun _ => 0⟩

def Ops6 (h : Heap) (p : Option Addr) (n c : Nat) : Prop := ∃ f : Nat → O6, n ≤ c ∧ c < 9223372036854775808 ∧
  (n = 0 ∨ ∃ b off, p = some ⟨b, off, none⟩ ∧ ∀ i, i < n → ∀ j, j < 7 → cellAt h ⟨b, off + i * 7 + j, none⟩ = some ((f i).f j)) ∧ ∀ i, i < n → (f i).Ok h

section
variable {H : Type} {enc : TypeId × Value → H} {P : Program} {W : World}

theorem byteRow6 {t e : TypeId} {fuel : Nat} {v : Value} {x : DataW H × List MemPlace} {k : IntKind}
    (ht : P.underlying t = some (.slice e)) (he : P.underlying e = some (.int k)) (hc : P.cellsOf e = 1) (h : DataW.trod enc P W 0 (fun _ => true) true fuel t [v] = some x) :
    ∃ p n c, v = .slice p n c ∧ SRow W.heap k p n c := by
  have key : ∃ p n c, v = .slice p n c := by
    rcases ChangeShapes.open_ints ht he hc h with ⟨hcs, _⟩ | ⟨a, len, cap, zs, hcs, _⟩
    · exact ⟨none, 0, 0, by simpa using hcs⟩
    · exact ⟨some a, len, cap, by simpa using hcs⟩
  obtain ⟨p, n, c, rfl⟩ := key
  exact ⟨p, n, c, rfl, byteRow (d := x.1) (ps := x.2) ht he hc ⟨fuel, h⟩⟩

theorem one_field6 {fs : Array Field} {n : Nat} {cs : List Value} {xs : List (DataW H × List MemPlace)} (hx : xs.length = fs.size)
    (hf : ∀ (i : Nat) (f : Field), fs[i]? = some f → DataW.trod enc P W 0 (fun _ => true) true n f.type ((cs.drop f.offset).take (P.cellsOf f.type)) = xs[i]?)
    {i : Nat} {f : Field} (hi : fs[i]? = some f) (ho : f.offset = i) (hc : P.cellsOf f.type = 1) (hl : i < cs.length) :
    ∃ x, DataW.trod enc P W 0 (fun _ => true) true n f.type [cs[i]] = some x := by
  have h1 := hf i f hi
  have hlt : i < xs.length := by rw [hx]; exact (Array.getElem?_eq_some_iff.1 hi).1
  rw [ho, hc, List.getElem?_eq_getElem hlt] at h1
  have h2 : (cs.drop i).take 1 = [cs[i]] := by
    rw [List.drop_eq_getElem_cons hl]
    rfl
  rw [h2] at h1
  exact ⟨_, h1⟩

theorem op6Row {e ti tu tb ts tby : TypeId} {f0 f1 f2 f3 f4 f5 f6 : Field} {fuel : Nat} {cs : List Value} {x : DataW H × List MemPlace}
    (he : P.underlying e = some (.struct #[f0, f1, f2, f3, f4, f5, f6])) (hce : P.cellsOf e = 7)
    (ho : f0.offset = 0 ∧ f1.offset = 1 ∧ f2.offset = 2 ∧ f3.offset = 3 ∧ f4.offset = 4 ∧ f5.offset = 5 ∧ f6.offset = 6)
    (hty : f0.type = ti ∧ f1.type = ti ∧ f2.type = ti ∧ f3.type = ti ∧ f4.type = tb ∧ f5.type = tu ∧ f6.type = ts)
    (hi : P.underlying ti = some (.int .i64)) (hu : P.underlying tu = some (.int .u64)) (hb : P.underlying tb = some .bool) (hs : P.underlying ts = some (.slice tby)) (hby : P.underlying tby = some (.int .u8))
    (ci : P.cellsOf ti = 1) (cu : P.cellsOf tu = 1) (cb : P.cellsOf tb = 1) (cs' : P.cellsOf ts = 1) (cby : P.cellsOf tby = 1)
    (h : DataW.trod enc P W 0 (fun _ => true) true fuel e cs = some x) :
    ∃ o : O6, (∀ j, j < 7 → cs[j]? = some (o.f j)) ∧ o.Ok W.heap := by
  obtain ⟨xs, n, _, _, hl, hx, hf⟩ := DataW.trod_struct he h
  rw [hce] at hl
  obtain ⟨o0, o1, o2, o3, o4, o5, o6⟩ := ho
  obtain ⟨t0, t1, t2, t3, t4, t5, t6⟩ := hty
  obtain ⟨x0, k0⟩ := one_field6 (f := f0) hx hf (i := 0) rfl o0 (by rw [t0]; exact ci) (by omega)
  obtain ⟨x1, k1⟩ := one_field6 (f := f1) hx hf (i := 1) rfl o1 (by rw [t1]; exact ci) (by omega)
  obtain ⟨x2, k2⟩ := one_field6 (f := f2) hx hf (i := 2) rfl o2 (by rw [t2]; exact ci) (by omega)
  obtain ⟨x3, k3⟩ := one_field6 (f := f3) hx hf (i := 3) rfl o3 (by rw [t3]; exact ci) (by omega)
  obtain ⟨x4, k4⟩ := one_field6 (f := f4) hx hf (i := 4) rfl o4 (by rw [t4]; exact cb) (by omega)
  obtain ⟨x5, k5⟩ := one_field6 (f := f5) hx hf (i := 5) rfl o5 (by rw [t5]; exact cu) (by omega)
  obtain ⟨x6, k6⟩ := one_field6 (f := f6) hx hf (i := 6) rfl o6 (by rw [t6]; exact cs') (by omega)
  obtain ⟨v0, e0, _, w0⟩ := DataW.trod_int (by rw [t0]; exact hi) k0
  obtain ⟨v1, e1, _, w1⟩ := DataW.trod_int (by rw [t1]; exact hi) k1
  obtain ⟨v2, e2, _, w2⟩ := DataW.trod_int (by rw [t2]; exact hi) k2
  obtain ⟨v3, e3, _, w3⟩ := DataW.trod_int (by rw [t3]; exact hi) k3
  obtain ⟨v4, e4, _⟩ := DataW.trod_bool (by rw [t4]; exact hb) k4
  obtain ⟨v5, e5, _, w5⟩ := DataW.trod_int (by rw [t5]; exact hu) k5
  obtain ⟨dp, dn, dc, e6, s6⟩ := byteRow6 (by rw [t6]; exact hs) hby cby k6
  obtain ⟨g, q1, q2, q3, q4⟩ := SRow.u8 s6
  simp only [List.cons.injEq, and_true] at e0 e1 e2 e3 e4 e5
  have bd : ∀ {z : Int}, (Lit.int .i64 z).wf = true → -9223372036854775808 ≤ z ∧ z ≤ 9223372036854775807 := fun w => by have := Go.bounds_i64 w; omega
  refine ⟨⟨v0, v1, v2, v3, v4, v5, dp, dn, dc, g⟩, fun j hj => ?_, ⟨bd w1, bd w2, bd w3, wf_u64 w5, ⟨q1, q2⟩, Row.take q3 q1, fun x hx => q4 x (Nat.lt_of_lt_of_le hx q1), (Row.take q3 q1).off fun b hb => hb⟩⟩
  have : j = 0 ∨ j = 1 ∨ j = 2 ∨ j = 3 ∨ j = 4 ∨ j = 5 ∨ j = 6 := by omega
  have hg : ∀ k (hk : k < cs.length) (v : Value), cs[k] = v → cs[k]? = some v := fun k hk v e => by rw [List.getElem?_eq_getElem hk, e]
  rcases this with rfl | rfl | rfl | rfl | rfl | rfl | rfl
  · exact hg _ (by omega) _ e0
  · exact hg _ (by omega) _ e1
  · exact hg _ (by omega) _ e2
  · exact hg _ (by omega) _ e3
  · exact hg _ (by omega) _ e4
  · exact hg _ (by omega) _ e5
  · exact hg _ (by omega) _ e6

theorem ops6Row {t e ti tu tb ts tby : TypeId} {f0 f1 f2 f3 f4 f5 f6 : Field} {p : Option Addr} {n c : Nat} {d : DataW H} {ps : List MemPlace}
    (ht : P.underlying t = some (.slice e)) (he : P.underlying e = some (.struct #[f0, f1, f2, f3, f4, f5, f6])) (hce : P.cellsOf e = 7)
    (ho : f0.offset = 0 ∧ f1.offset = 1 ∧ f2.offset = 2 ∧ f3.offset = 3 ∧ f4.offset = 4 ∧ f5.offset = 5 ∧ f6.offset = 6)
    (hty : f0.type = ti ∧ f1.type = ti ∧ f2.type = ti ∧ f3.type = ti ∧ f4.type = tb ∧ f5.type = tu ∧ f6.type = ts)
    (hi : P.underlying ti = some (.int .i64)) (hu : P.underlying tu = some (.int .u64)) (hb : P.underlying tb = some .bool) (hs : P.underlying ts = some (.slice tby)) (hby : P.underlying tby = some (.int .u8))
    (ci : P.cellsOf ti = 1) (cu : P.cellsOf tu = 1) (cb : P.cellsOf tb = 1) (cs' : P.cellsOf ts = 1) (cby : P.cellsOf tby = 1)
    (h : DataW.Trod enc P W 0 (fun _ => true) true t (.slice p n c) d ps) : Ops6 W.heap p n c := by
  obtain ⟨fuel, hf⟩ := h
  rcases DataW.trod_slice ht hf with ⟨hcs, _⟩ | ⟨a, len, cap, elems, rest, k, _, hcs, _, _, hl, hm, hlen, hel, _⟩
  · simp only [Value.cells, List.cons.injEq, Value.slice.injEq, and_true] at hcs
    obtain ⟨rfl, rfl, rfl⟩ := hcs
    exact ⟨fun _ => o60, Nat.le_refl _, by decide, .inl rfl, fun i hi => absurd hi (by omega)⟩
  · simp only [Value.cells, List.cons.injEq, Value.slice.injEq, and_true] at hcs
    obtain ⟨rfl, rfl, rfl⟩ := hcs
    have each : ∀ i : Nat, ∃ o : O6, i < n → (∀ j, j < 7 → W.cell? ((a.add (i * 7)).add j) = some (o.f j)) ∧ o.Ok W.heap := by
      intro i
      by_cases hin : i < n
      · have h1 := hel i hin
        rw [hce, List.getElem?_eq_getElem (by omega)] at h1
        simp only [Option.bind_eq_some_iff] at h1
        obtain ⟨cs, hc1, hc2⟩ := h1
        obtain ⟨_, hl9, hcell⟩ := World.cells?_some hc1
        obtain ⟨o, ho1, ho2⟩ := op6Row he hce ho hty hi hu hb hs hby ci cu cb cs' cby hc2
        exact ⟨o, fun _ => ⟨fun j hj => by rw [hcell j (by omega), ho1 j hj], ho2⟩⟩
      · exact ⟨o60, fun e => absurd e hin⟩
    refine ⟨fun i => (each i).choose, hl, ?_, ?_, fun i hi => ((each i).choose_spec hi).2⟩
    · have : maxLen = 9223372036854775807 := rfl
      omega
    · rcases Nat.eq_zero_or_pos n with h0 | h0
      · exact .inl h0
      · have h1 := ((each 0).choose_spec h0).1 0 (by omega)
        have hs0 : a.spot = none := by
          have hadd : (a.add (0 * 7)).add 0 = a := by simp [Addr.add]
          rw [hadd] at h1
          have h1' : cellAt W.heap a = some _ := h1
          obtain ⟨_, _, _, _, hs, _⟩ := cellAt_block (h := W.heap) (a := a) (by rw [h1']; rfl)
          exact hs
        obtain ⟨ab, ao, asp⟩ := a
        simp only at hs0
        subst hs0
        refine .inr ⟨ab, ao, rfl, fun i hi j hj => ?_⟩
        have := ((each i).choose_spec hi).1 j hj
        have e : ((⟨ab, ao, none⟩ : Addr).add (i * 7)).add j = ⟨ab, ao + i * 7 + j, none⟩ := by rw [add_mk, add_mk]
        exact (congrArg (fun a => W.cell? a) e.symm).trans this
end
end Go.Proofs.Ytippbfnhgooepaa
