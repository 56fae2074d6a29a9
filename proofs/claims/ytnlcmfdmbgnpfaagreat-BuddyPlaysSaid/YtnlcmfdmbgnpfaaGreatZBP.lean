/- croftlaw5: users write into live blocks; BuddyKeeps. No condition. -/
import Derived.Test.YtnlcmfdmbgnpfaaGreatZBO
set_option linter.unusedSimpArgs false
set_option linter.unusedVariables false
namespace Go.Proofs.YtnlcmfdmbgnpfaaGreat
open Go.V Classical

section
variable {w₀ : World} {h h' : Heap} {c : Cfg} {Q : WW} {x : BU} {K : Value → Heap → Prop} {fl : Nat → List Nat} {L hs : List PBk} {l : List Bk} {p k : Nat} {S : Nat → Prop}

theorem RepS.fill (R : RepS S c x fl L hs) (hb : (p, k) ∈ L) {st' : Sto} (hn : st'.n = x.st.n) (hM : ∀ o, (o < 4096 * p ∨ 4096 * (p + 2 ^ k) ≤ o) → st'.M o = x.st.M o) : RepS S c ⟨st', x.hd, x.m⟩ fl L hs := by
  refine ⟨⟨R.ok.m, R.ok.o, R.ok.b⟩, ⟨R.rm.b, R.rm.n, by have := R.rm.r; rw [hn]; exact this⟩, R.til, R.nb, fun j hj => ?_, R.pf, R.pl, R.bt, R.ps⟩
  have L0 := R.ls j hj
  refine ⟨L0.hd, L0.nd, L0.cl, seg_congr (fun a ha => ?_) L0.sg⟩
  obtain ⟨q, hq, rfl⟩ := List.mem_map.1 ha
  have e1 : (adr c q - c.base).toNat = 4096 * q := by unfold adr; omega
  have e2 : (adr c q + 8 - c.base).toNat = 4096 * q + 8 := by unfold adr; omega
  have hbm : (p, k) ∈ hs ++ (L ++ blks x.m.o fl) := List.mem_append_right _ (List.mem_append_left _ hb)
  have hqm := R.mem hj hq
  have nd := R.til.nodup
  have hout : q < p ∨ p + 2 ^ k ≤ q := by
    refine Classical.byContradiction fun hno => ?_
    have := R.til.uniq hbm hqm (q := q) ⟨by simp only []; omega, by simp only []; omega⟩ cov_self
    have h2 := (List.nodup_append.1 (List.nodup_append.1 nd).2.1).2.2 (p, k) hb (q, j) (mem_blks.2 ⟨hj, hq⟩)
    exact h2 this
  have same : ∀ o, 4096 * q ≤ o → o < 4096 * q + 16 → st'.M o = x.st.M o := fun o h1 h2 => hM o (by
    rcases hout with ho | ho
    · left; omega
    · right; exact Nat.le_trans (Nat.mul_le_mul_left _ ho) h1)
  unfold Sto.rd
  rw [e1, e2]
  exact ⟨wrd_congr fun i hi => same _ (by omega) (by omega), wrd_congr fun i hi => same _ (by omega) (by omega)⟩

theorem live_there (W : WS S c x fl L) (hb : (p, k) ∈ L) (g : c.Good) : There c x.st.n (adr c p) ((4096 * 2 ^ k : Nat) : Int) ∧ U64 (adr c p) ∧ 4096 * (p + 2 ^ k) ≤ x.st.n * c.size ∧ k ≤ 8 ∧ p < 4096 := by
  have al := W.al hb
  simp only [] at al
  have n1 := W.ok.m.n1
  have o8 := W.ok.m.o8
  have h0 := Nat.two_pow_pos k
  have r := W.rep.rm.r
  refine ⟨.inr ⟨by unfold adr; omega, by unfold adr; omega⟩, adr_u64 g W.ok.m (by omega), by omega, by omega, by omega⟩

theorem shl64 (hk : k ≤ 8) : IntKind.wrap .u64 ((4096 : Int) * 2 ^ min (Int.toNat (IntKind.wrap .u64 (k : Int))) (IntKind.bits .u64)) = ((4096 * 2 ^ k : Nat) : Int) ∧ IntKind.wrap .i64 ((4096 : Int) * 2 ^ min (Int.toNat (IntKind.wrap .u64 (k : Int))) (IntKind.bits .i64)) = ((4096 * 2 ^ k : Nat) : Int) := by
  have : k = 0 ∨ k = 1 ∨ k = 2 ∨ k = 3 ∨ k = 4 ∨ k = 5 ∨ k = 6 ∨ k = 7 ∨ k = 8 := by omega
  rcases this with rfl | rfl | rfl | rfl | rfl | rfl | rfl | rfl | rfl <;> decide

end

end Go.Proofs.YtnlcmfdmbgnpfaaGreat
