/- croftlaw5: rows of truths; space and map come apart: BuddyAhead. No condition. -/
import Derived.Test.YteemmpkhdllapaaDoorZBT
set_option linter.unusedSimpArgs false
set_option linter.unusedVariables false
namespace Go.Proofs.YteemmpkhdllapaaDoor
open Go.V Classical Go.RowKit

def Bls (h : Heap) (p : Option Addr) (n c : Nat) : Prop := ∃ f : Nat → Bool, n ≤ c ∧ c < 9223372036854775808 ∧ (n = 0 ∨ ∃ b off, p = some ⟨b, off, none⟩ ∧ ∀ i, i < n → cellAt h ⟨b, off + i, none⟩ = some (.bool (f i)))

theorem boolRow {H : Type} {enc : TypeId × Value → H} {P : Program} {W : World} {t e : TypeId} {p : Option Addr} {n c : Nat} {d : DataW H} {ps : List MemPlace} (ht : P.underlying t = some (.slice e)) (he : P.underlying e = some .bool) (hce : P.cellsOf e = 1)
    (h : DataW.Trod enc P W 0 (fun _ => true) true t (.slice p n c) d ps) : Bls W.heap p n c := by
  obtain ⟨fuel, hf'⟩ := h
  rcases DataW.trod_slice ht hf' with ⟨hcs, _⟩ | ⟨a, len, cap, elems, rest, k, _, hcs, _, _, hl, hmx, hlen, hel, _⟩
  · simp only [Value.cells, List.cons.injEq, Value.slice.injEq, and_true] at hcs
    obtain ⟨rfl, rfl, rfl⟩ := hcs
    exact ⟨fun _ => false, Nat.le_refl _, by decide, .inl rfl⟩
  · simp only [Value.cells, List.cons.injEq, Value.slice.injEq, and_true] at hcs
    obtain ⟨rfl, rfl, rfl⟩ := hcs
    have each : ∀ i, i < n → ∃ b, W.cell? ((a.add (i * 1)).add 0) = some (.bool b) := by
      intro i hi
      have h1 := hel i hi
      rw [hce, List.getElem?_eq_getElem (by omega)] at h1
      simp only [Option.bind_eq_some_iff] at h1
      obtain ⟨cs, hc1, hc2⟩ := h1
      obtain ⟨_, hlm, hcell⟩ := World.cells?_some hc1
      obtain ⟨b, e, _⟩ := DataW.trod_bool he hc2
      refine ⟨b, ?_⟩
      rw [hcell 0 (by omega), e]; rfl
    have hmx' : c < 9223372036854775808 := by
      have : maxLen = 9223372036854775807 := rfl
      omega
    rcases Nat.eq_zero_or_pos n with h0 | h0
    · exact ⟨fun _ => false, hl, hmx', .inl h0⟩
    · obtain ⟨v, h1⟩ := each 0 h0
      have hs0 : a.spot = none := by
        have hadd : (a.add (0 * 1)).add 0 = a := by simp [Addr.add]
        rw [hadd] at h1
        have h1' : cellAt W.heap a = some _ := h1
        obtain ⟨_, _, _, _, hs, _⟩ := cellAt_block (h := W.heap) (a := a) (by rw [h1']; rfl)
        exact hs
      obtain ⟨ab, ao, asp⟩ := a
      simp only at hs0
      subst hs0
      have each' : ∀ i, ∃ b, i < n → cellAt W.heap ⟨ab, ao + i, none⟩ = some (.bool b) := fun i => by
        by_cases hi : i < n
        · obtain ⟨b, hb⟩ := each i hi
          refine ⟨b, fun _ => ?_⟩
          have e : ((⟨ab, ao, none⟩ : Addr).add (i * 1)).add 0 = ⟨ab, ao + i, none⟩ := by rw [add_mk, add_mk]; simp
          rw [e] at hb; exact hb
        · exact ⟨false, fun h => absurd h hi⟩
      exact ⟨fun i => (each' i).choose, hl, hmx', .inr ⟨ab, ao, rfl, fun i hi => (each' i).choose_spec hi⟩⟩

section
variable {c : Cfg} {x x' : BU} {fl : Nat → List Nat} {L hs : List PBk}

theorem RepS.same {S : Nat → Prop} (R : RepS S c x fl L hs) (ok' : BU.Ok c x') (ho : x'.m.o = x.m.o) (hn : x'.m.n = x.m.n) (hpg : ∀ q, q < x.m.n → x'.m.pg q = x.m.pg q) (hbt : ∀ k, k < x.m.o → ∀ i, x'.m.bt k i = x.m.bt k i) (hhd : x'.hd = x.hd)
    (hst : x'.st.n = x.st.n) (hM : ∀ o, o < 4096 * x.m.n → x'.st.M o = x.st.M o) : RepS S c x' fl L hs := by
  refine ⟨ok', ⟨R.rm.b, by rw [hn]; exact R.rm.n, by rw [hn, hst]; exact R.rm.r⟩, by rw [ho, hn]; exact R.til, by rw [ho]; exact R.nb, fun k hk => ?_, fun k p hk hp q hq => ?_, fun b hb hS q hq => ?_, fun k p hk hp hlt => ?_, fun q hq => ⟨(R.ps q hq).1, by rw [hpg q (R.sn hq)]; exact (R.ps q hq).2⟩⟩
  · rw [ho] at hk
    have L0 := R.ls k hk
    rw [hn, hhd]
    refine ⟨L0.hd, L0.nd, L0.cl, seg_congr (fun a ha => ?_) L0.sg⟩
    obtain ⟨q, hq, rfl⟩ := L0.cl a ha
    have e1 : (adr c q - c.base).toNat = 4096 * q := by unfold adr; omega
    have e2 : (adr c q + 8 - c.base).toNat = 4096 * q + 8 := by unfold adr; omega
    unfold Sto.rd
    rw [e1, e2]
    exact ⟨wrd_congr fun i hi => hM _ (by omega), wrd_congr fun i hi => hM _ (by omega)⟩
  · rw [ho] at hk
    have al := R.al hk hp
    rw [hpg q (by have := hq.2; simp only [] at this; omega)]
    exact R.pf k p hk hp q hq
  · have al := (R.til.al b (List.mem_append_right _ (List.mem_append_left _ hb))).2.2
    rw [hpg q (by have := hq.2; omega)]
    exact R.pl b hb hS q hq
  · rw [ho] at hk
    rw [hn] at hlt
    rw [hbt k hk]
    exact R.bt k p hk hp hlt

end
end Go.Proofs.YteemmpkhdllapaaDoor
