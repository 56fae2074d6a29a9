/- region: a pool: New, Need, Give, Trim. No condition. -/
import Derived.Test.YteemmpkhdllapaaDoorZC0
import Derived.Test.YteemmpkhdllapaaDoorZM3
set_option linter.unusedSimpArgs false
set_option linter.unusedVariables false
namespace Go.Proofs.YteemmpkhdllapaaDoor
open Go.V Classical

structure PL where
  pb : Nat
  B : BW

abbrev gptr (b : Nat) : Value := .pointer (some ⟨b, 0, none⟩)
abbrev plR (c : Cfg) (Q : PL) (x : BU) : Res := andR (blkR Q.pb 3 (f3 (gptr Q.B.s) (gptr Q.B.mb) (gptr Q.B.b))) (buR c Q.B x)

section
variable {w₀ : World} {h h' : Heap} {S : Nat → Prop} {c : Cfg} {Q : PL} {x : BU} {K : Value → Heap → Prop} {fl : Nat → List Nat} {L L' : List PBk} {p k : Nat}

theorem pl_bu (H : (plR c Q x).P h) : (buR c Q.B x).P h := H.2.1
theorem pl_c0 (H : (plR c Q x).P h) : cellAt h ⟨Q.pb, 0, none⟩ = some (gptr Q.B.s) := (f3_cells H.1).1
theorem pl_c1 (H : (plR c Q x).P h) : cellAt h ((⟨Q.pb, 0, none⟩ : Addr).add 1) = some (gptr Q.B.mb) := (f3_cells H.1).2.1
theorem pl_c2 (H : (plR c Q x).P h) : cellAt h ((⟨Q.pb, 0, none⟩ : Addr).add 2) = some (gptr Q.B.b) := (f3_cells H.1).2.2

theorem pl_lift {x' : BU} {B' : BW} (H : (plR c Q x).P h) (hB : B'.s = Q.B.s ∧ B'.mb = Q.B.mb ∧ B'.b = Q.B.b) (S : Stp h h' (buR c Q.B x) (buR c B' x')) : Stp h h' (plR c Q x) (plR c ⟨Q.pb, B'⟩ x') := by
  have T := S.right H
  unfold plR
  rw [hB.1, hB.2.1, hB.2.2]
  exact T

theorem pl_lift' {x' : BU} (H : (plR c Q x).P h) (S : Stp h h' (buR c Q.B x) (buR c Q.B x')) : Stp h h' (plR c Q x) (plR c Q x') := S.right H

theorem ground_Space_ok (H : (plR c Q x).P h) (hK : K (gptr Q.B.s) h) : CallV Tryd.prog w₀ F.region_ground_Space [.pointer (some ⟨Q.pb, 0, none⟩)] h K := region_ground_Space.call ⟨_, rfl, _, pl_c0 H, hK⟩
theorem ground_Map_ok (H : (plR c Q x).P h) (hK : K (gptr Q.B.mb) h) : CallV Tryd.prog w₀ F.region_ground_Map [.pointer (some ⟨Q.pb, 0, none⟩)] h K := region_ground_Map.call ⟨_, rfl, _, pl_c1 H, hK⟩
theorem ground_Buddy_ok (H : (plR c Q x).P h) (hK : K (gptr Q.B.b) h) : CallV Tryd.prog w₀ F.region_ground_Buddy [.pointer (some ⟨Q.pb, 0, none⟩)] h K := region_ground_Buddy.call ⟨_, rfl, _, pl_c2 H, hK⟩

theorem pl_make {h0 : Heap} {s mb b : Nat} {w : MW} {lp : Option Addr} {lc : Nat} {lb : Nat → Nat} {Z : Nat → Prop} {x : BU} {n : Nat} (hn : n = x.m.o + 1) {rs : List Res} (I : Hold h0 h [bopR c s mb b lp n lc lb x.hd, mapR mb x.m w, spR s c Z x.st]) :
    ∃ B : BW, B.s = s ∧ B.mb = mb ∧ B.b = b ∧ Hold h0 h [buR c B x] := by
  subst hn
  have J2 := I.split.swap.split
  have J3 := (J2.front3.join.front4.front3.join).front3.swap.join.swap.join
  exact ⟨⟨s, Z, mb, w, b, lp, lc, lb⟩, rfl, rfl, rfl, J3⟩

theorem region_New_ok {a b d : Int} (ha : U64 a) (hn : ¬ Cfg.Good ⟨a, b, d⟩ → ∀ h', Upd NoB h h' → K (.tuple #[.pointer none, .int .i64 1]) h')
    (hg : Cfg.Good ⟨a, b, d⟩ → ∀ (h' : Heap) (Q : PL), New h h' (plR ⟨a, b, d⟩ Q (BU0 ⟨a, b, d⟩)) → K (.tuple #[.pointer (some ⟨Q.pb, 0, none⟩), .int .i64 0]) h') :
    CallV Tryd.prog w₀ F.region_New [.agg #[.int .u64 a, .int .i64 b, .int .i64 d]] h K := by
  refine region_New.call ?_
  unfold region_New.vc
  have N1 := box3 h (.int .u64 a) (.int .i64 b) (.int .i64 d) T.T_api_Config
  generalize Array.push h (.cells #[.int .u64 a, .int .i64 b, .int .i64 d] T.T_api_Config) = h1 at N1 ⊢
  have I1 := (Hold.nil h).new N1
  obtain ⟨k0, k1, k2⟩ := f3_cells (I1.at 0)
  refine ⟨_, k0, _, k1, _, k2, ?_⟩
  refine mem_New_ok ha (fun hb h4 u4 => ⟨_, _, rfl, iT rfl (hn hb h4 (N1.u.nx u4 fun _ e _ => e))⟩) fun g h4 s u4 hs4 H4 => ⟨_, _, rfl, iF rfl ?_⟩
  have N4 : New h1 h4 (spR s ⟨a, b, d⟩ (fun x => x = s) ⟨0, fun _ => 0⟩) := ⟨u4, H4, fun b e => by have e : b = s := e; omega⟩
  have I4 := I1.new N4
  obtain ⟨k0, k1, k2⟩ := f3_cells (I4.at 1)
  refine ⟨_, k2, pm_New_ok fun h5 mb w N5 => ⟨_, rfl, ?_⟩⟩
  have I5 := I4.new N5
  obtain ⟨k0, k1, k2⟩ := f3_cells (I5.at 2)
  refine ⟨_, k0, _, k1, _, k2, bu_New_ok (c := ⟨a, b, d⟩) ⟨g.o0, g.o8⟩ fun h6 bb lp lc lb N6 => ⟨_, rfl, ?_⟩⟩
  have I6 := I5.new N6
  have J1 : Hold h h6 [bopR ⟨a, b, d⟩ s mb bb lp (d.toNat + 1) lc lb (BU0 ⟨a, b, d⟩).hd, mapR mb (BU0 ⟨a, b, d⟩).m w, spR s ⟨a, b, d⟩ (fun x => x = s) (BU0 ⟨a, b, d⟩).st] := I6.sub (.cons_cons _ (.cons_cons _ (.cons_cons _ (.cons _ .slnil))))
  have hcl : (BU0 ⟨a, b, d⟩).m.o = d.toNat := clamp_o g
  obtain ⟨B, e1, e2, e3, J2⟩ := pl_make (rs := []) (by rw [hcl]) J1
  have N7 := box3 h6 (.pointer (some ⟨s, 0, none⟩)) (.pointer (some ⟨mb, 0, none⟩)) (.pointer (some ⟨bb, 0, none⟩)) T.T_region_Pool
  have J3 := (J2.new N7).join
  refine hg g _ ⟨h6.size, B⟩ ?_
  have := J3.toNew
  unfold plR
  rw [e1, e2, e3]
  exact this

def Keep (L : List PBk) (st st' : Sto) : Prop := ∀ b ∈ L, ∀ o, 4096 * b.1 ≤ o → o < 4096 * (b.1 + 2 ^ b.2) → st'.M o = st.M o

theorem Keep.trans {L : List PBk} {a b d : Sto} (h : Keep L a b) (k : Keep L b d) : Keep L a d := fun z hz o h1 h2 => (k z hz o h1 h2).trans (h z hz o h1 h2)

end
end Go.Proofs.YteemmpkhdllapaaDoor
