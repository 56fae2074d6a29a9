/- croftlaw5: rows of truths; space and map come apart: BuddyAhead. No condition. -/
import Derived.Test.YtnlcmfdmbgnpfaaGreatZBT
set_option linter.unusedSimpArgs false
set_option linter.unusedVariables false
namespace Go.Proofs.YtnlcmfdmbgnpfaaGreat
open Go.V Classical Go.RowKit

section
variable {c : Cfg} {x x' : BU} {fl : Nat → List Nat} {L hs : List PBk}

theorem RepS.same {S : Nat → Prop} (R : RepS S c x fl L hs) (ok' : BU.Ok c x') (ho : x'.m.o = x.m.o) (hn : x'.m.n = x.m.n) (hpg : ∀ q, q < x.m.n → x'.m.pg q = x.m.pg q) (hbt : ∀ k, k < x.m.o → ∀ i, x'.m.bt k i = x.m.bt k i) (hhd : x'.hd = x.hd)
    (hst : x'.st.n = x.st.n) (hM : ∀ o, o < 4096 * x.m.n → x'.st.M o = x.st.M o) : RepS S c x' fl L hs := by
  refine ⟨ok', ⟨R.rm.b, by rw [hn]; exact R.rm.n, by rw [hn, hst]; exact R.rm.r⟩, by rw [ho, hn]; exact R.til, by rw [ho]; exact R.nb, fun k hk => ?_, fun k p hk hp q hq => ?_, fun b hb hS q hq => ?_, fun k p hk hp hlt => ?_, fun q hq => ⟨(R.ps q hq).1, by rw [hpg q (R.sn hq)]; exact (R.ps q hq).2⟩⟩
  · rw [ho] at hk
    have L0 := R.ls k hk
    rw [hn, hhd]
    refine ⟨L0.hd, L0.nd, L0.cl, seg_congr (fun a ha => ?_) L0.sg⟩
    obtain ⟨q, hq, rfl⟩ := L0.cl a ha
    have e1 : (adr c q - c.base).toNat = 4096 * q := by unfold adr; omega
    have e2 : (adr c q + 8 - c.base).toNat = 4096 * q + 8 := by unfold adr; omega
    unfold Sto.rd
    rw [e1, e2]
    exact ⟨wrd_congr fun i hi => hM _ (by omega), wrd_congr fun i hi => hM _ (by omega)⟩
  · rw [ho] at hk
    have al := R.al hk hp
    rw [hpg q (by have := hq.2; simp only [] at this; omega)]
    exact R.pf k p hk hp q hq
  · have al := (R.til.al b (List.mem_append_right _ (List.mem_append_left _ hb))).2.2
    rw [hpg q (by have := hq.2; omega)]
    exact R.pl b hb hS q hq
  · rw [ho] at hk
    rw [hn] at hlt
    rw [hbt k hk]
    exact R.bt k p hk hp hlt

end
end Go.Proofs.YtnlcmfdmbgnpfaaGreat
