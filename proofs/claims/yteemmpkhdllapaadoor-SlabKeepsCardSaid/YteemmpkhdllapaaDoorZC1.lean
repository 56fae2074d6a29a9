/- region: a pool: New, Need, Give, Trim. No condition. -/
import Derived.Test.YteemmpkhdllapaaDoorZC0
import Derived.Test.YteemmpkhdllapaaDoorZM3
set_option linter.unusedSimpArgs false
set_option linter.unusedVariables false
namespace Go.Proofs.YteemmpkhdllapaaDoor
open Go.V Classical

structure PL where
  pb : Nat
  B : BW

abbrev gptr (b : Nat) : Value := .pointer (some ⟨b, 0, none⟩)
abbrev plR (c : Cfg) (Q : PL) (x : BU) : Res := andR (blkR Q.pb 3 (f3 (gptr Q.B.s) (gptr Q.B.mb) (gptr Q.B.b))) (buR c Q.B x)

section
variable {w₀ : World} {h h' : Heap} {S : Nat → Prop} {c : Cfg} {Q : PL} {x : BU} {K : Value → Heap → Prop} {fl : Nat → List Nat} {L L' : List PBk} {p k : Nat}

theorem pl_bu (H : (plR c Q x).P h) : (buR c Q.B x).P h := H.2.1
theorem pl_c0 (H : (plR c Q x).P h) : cellAt h ⟨Q.pb, 0, none⟩ = some (gptr Q.B.s) := (f3_cells H.1).1
theorem pl_c1 (H : (plR c Q x).P h) : cellAt h ((⟨Q.pb, 0, none⟩ : Addr).add 1) = some (gptr Q.B.mb) := (f3_cells H.1).2.1
theorem pl_c2 (H : (plR c Q x).P h) : cellAt h ((⟨Q.pb, 0, none⟩ : Addr).add 2) = some (gptr Q.B.b) := (f3_cells H.1).2.2

theorem pl_lift {x' : BU} {B' : BW} (H : (plR c Q x).P h) (hB : B'.s = Q.B.s ∧ B'.mb = Q.B.mb ∧ B'.b = Q.B.b) (S : Stp h h' (buR c Q.B x) (buR c B' x')) : Stp h h' (plR c Q x) (plR c ⟨Q.pb, B'⟩ x') := by
  have T := S.right H
  unfold plR
  rw [hB.1, hB.2.1, hB.2.2]
  exact T

theorem pl_lift' {x' : BU} (H : (plR c Q x).P h) (S : Stp h h' (buR c Q.B x) (buR c Q.B x')) : Stp h h' (plR c Q x) (plR c Q x') := S.right H

theorem ground_Space_ok (H : (plR c Q x).P h) (hK : K (gptr Q.B.s) h) : CallV Tryd.prog w₀ F.region_ground_Space [.pointer (some ⟨Q.pb, 0, none⟩)] h K := region_ground_Space.call ⟨_, rfl, _, pl_c0 H, hK⟩
theorem ground_Map_ok (H : (plR c Q x).P h) (hK : K (gptr Q.B.mb) h) : CallV Tryd.prog w₀ F.region_ground_Map [.pointer (some ⟨Q.pb, 0, none⟩)] h K := region_ground_Map.call ⟨_, rfl, _, pl_c1 H, hK⟩
theorem ground_Buddy_ok (H : (plR c Q x).P h) (hK : K (gptr Q.B.b) h) : CallV Tryd.prog w₀ F.region_ground_Buddy [.pointer (some ⟨Q.pb, 0, none⟩)] h K := region_ground_Buddy.call ⟨_, rfl, _, pl_c2 H, hK⟩

theorem pl_make {h0 : Heap} {s mb b : Nat} {w : MW} {lp : Option Addr} {lc : Nat} {lb : Nat → Nat} {Z : Nat → Prop} {x : BU} {n : Nat} (hn : n = x.m.o + 1) {rs : List Res} (I : Hold h0 h [bopR c s mb b lp n lc lb x.hd, mapR mb x.m w, spR s c Z x.st]) :
    ∃ B : BW, B.s = s ∧ B.mb = mb ∧ B.b = b ∧ Hold h0 h [buR c B x] := by
  subst hn
  have J2 := I.split.swap.split
  have J3 := (J2.front3.join.front4.front3.join).front3.swap.join.swap.join
  exact ⟨⟨s, Z, mb, w, b, lp, lc, lb⟩, rfl, rfl, rfl, J3⟩

theorem region_New_ok {a b d : Int} (ha : U64 a) (hn : ¬ Cfg.Good ⟨a, b, d⟩ → ∀ h', Upd NoB h h' → K (.tuple #[.pointer none, .int .i64 1]) h')
    (hg : Cfg.Good ⟨a, b, d⟩ → ∀ (h' : Heap) (Q : PL), New h h' (plR ⟨a, b, d⟩ Q (BU0 ⟨a, b, d⟩)) → K (.tuple #[.pointer (some ⟨Q.pb, 0, none⟩), .int .i64 0]) h') :
    CallV Tryd.prog w₀ F.region_New [.agg #[.int .u64 a, .int .i64 b, .int .i64 d]] h K := by
  refine region_New.call ?_
  unfold region_New.vc
  have N1 := box3 h (.int .u64 a) (.int .i64 b) (.int .i64 d) T.T_api_Config
  generalize Array.push h (.cells #[.int .u64 a, .int .i64 b, .int .i64 d] T.T_api_Config) = h1 at N1 ⊢
  have I1 := (Hold.nil h).new N1
  obtain ⟨k0, k1, k2⟩ := f3_cells (I1.at 0)
  refine ⟨_, k0, _, k1, _, k2, ?_⟩
  refine mem_New_ok ha (fun hb h4 u4 => ⟨_, _, rfl, iT rfl (hn hb h4 (N1.u.nx u4 fun _ e _ => e))⟩) fun g h4 s u4 hs4 H4 => ⟨_, _, rfl, iF rfl ?_⟩
  have N4 : New h1 h4 (spR s ⟨a, b, d⟩ (fun x => x = s) ⟨0, fun _ => 0⟩) := ⟨u4, H4, fun b e => by have e : b = s := e; omega⟩
  have I4 := I1.new N4
  obtain ⟨k0, k1, k2⟩ := f3_cells (I4.at 1)
  refine ⟨_, k2, pm_New_ok fun h5 mb w N5 => ⟨_, rfl, ?_⟩⟩
  have I5 := I4.new N5
  obtain ⟨k0, k1, k2⟩ := f3_cells (I5.at 2)
  refine ⟨_, k0, _, k1, _, k2, bu_New_ok (c := ⟨a, b, d⟩) ⟨g.o0, g.o8⟩ fun h6 bb lp lc lb N6 => ⟨_, rfl, ?_⟩⟩
  have I6 := I5.new N6
  have J1 : Hold h h6 [bopR ⟨a, b, d⟩ s mb bb lp (d.toNat + 1) lc lb (BU0 ⟨a, b, d⟩).hd, mapR mb (BU0 ⟨a, b, d⟩).m w, spR s ⟨a, b, d⟩ (fun x => x = s) (BU0 ⟨a, b, d⟩).st] := I6.sub (.cons_cons _ (.cons_cons _ (.cons_cons _ (.cons _ .slnil))))
  have hcl : (BU0 ⟨a, b, d⟩).m.o = d.toNat := clamp_o g
  obtain ⟨B, e1, e2, e3, J2⟩ := pl_make (rs := []) (by rw [hcl]) J1
  have N7 := box3 h6 (.pointer (some ⟨s, 0, none⟩)) (.pointer (some ⟨mb, 0, none⟩)) (.pointer (some ⟨bb, 0, none⟩)) T.T_region_Pool
  have J3 := (J2.new N7).join
  refine hg g _ ⟨h6.size, B⟩ ?_
  have := J3.toNew
  unfold plR
  rw [e1, e2, e3]
  exact this

def Keep (L : List PBk) (st st' : Sto) : Prop := ∀ b ∈ L, ∀ o, 4096 * b.1 ≤ o → o < 4096 * (b.1 + 2 ^ b.2) → st'.M o = st.M o

theorem Keep.trans {L : List PBk} {a b d : Sto} (h : Keep L a b) (k : Keep L b d) : Keep L a d := fun z hz o h1 h2 => (k z hz o h1 h2).trans (h z hz o h1 h2)

theorem trimPS (W : WS S c x fl L) (H : (plR c Q x).P h)
    (hK : ∀ x' fl' (Q' : PL) h', Q'.pb = Q.pb → Q'.B.s = Q.B.s ∧ Q'.B.mb = Q.B.mb ∧ Q'.B.b = Q.B.b → trimF x.m.o x.st.n fl = (x'.st.n, fl') → WS S c x' fl' L → x'.m.o = x.m.o → x'.st.n ≤ x.st.n → Keep L x.st x'.st → PK L x.m x'.m →
      Stp h h' (plR c Q x) (plR c Q' x') → K (.int .i64 ((x.st.n - x'.st.n : Nat) : Int)) h') :
    CallV Tryd.prog w₀ F.region_Pool_Trim [.pointer (some ⟨Q.pb, 0, none⟩)] h K := by
  refine region_Pool_Trim.call ?_
  unfold region_Pool_Trim.vc
  intro J1 hJ1 L2 hL2
  have hnr := W.nr
  have key : ∀ (r k : Nat) (hx : Heap) (Q' : PL) (y : BU) (g : Nat → List Nat), y.st.n = r → k + r = x.st.n → Q'.pb = Q.pb → Q'.B.s = Q.B.s ∧ Q'.B.mb = Q.B.mb ∧ Q'.B.b = Q.B.b → trimF x.m.o x.st.n fl = trimF x.m.o r g → WS S c y g L → y.m.o = x.m.o → Keep L x.st y.st → PK L x.m y.m →
      Stp h hx (plR c Q x) (plR c Q' y) → L2 [.pointer (some ⟨Q.pb, 0, none⟩), .int .i64 (k : Int)] hx := by
    intro r
    induction r with
    | zero =>
      intro k hx Q' y g hr hk hq hB ht Wy oy ky py S'
      have Hy := S'.p
      have hn0 : y.m.n = 0 := by rw [Wy.e, hr, Nat.zero_mul]
      refine hL2 _ _ _ ⟨_, rfl, _, (by rw [← hq]; exact pl_c2 Hy), ?_⟩
      refine pullBN Wy (pl_bu Hy) (top_zero Wy hn0) fun h1 S1 => ⟨_, rfl, iF rfl (hJ1 _ _ ?_)⟩
      have := hK y g Q' h1 hq hB (by rw [ht, hr]; rfl) Wy oy (by omega) ky py (S'.trans (pl_lift' Hy S1))
      rw [show x.st.n - y.st.n = k by omega] at this
      exact this
    | succ r ih =>
      intro k hx Q' y g hr hk hq hB ht Wy oy ky py S'
      have Hy := S'.p
      have h0 := Nat.two_pow_pos x.m.o
      have en : y.m.n = (r + 1) * 2 ^ x.m.o := by rw [Wy.e, hr, oy]
      have et : y.m.n - 2 ^ y.m.o = r * 2 ^ x.m.o := by rw [en, oy, Nat.succ_mul, Nat.add_sub_cancel]
      refine hL2 _ _ _ ⟨_, rfl, _, (by rw [← hq]; exact pl_c2 Hy), ?_⟩
      by_cases hin : r * 2 ^ x.m.o ∈ g x.m.o
      · refine pullB Wy (pl_bu Hy) (by omega) (by rw [et, oy]; exact hin) fun y1 h1 W1 M1 S1 => ⟨_, rfl, iT rfl ?_⟩
        have T1 := S'.trans (pl_lift' Hy S1)
        have H1 := T1.p
        have o1 : y1.m.o = x.m.o := by rw [M1.o, oy]
        have n1 : y1.m.n = (r + 1) * 2 ^ x.m.o := by rw [M1.n, en]
        rw [et, oy] at W1
        have et1 : y1.m.n - 2 ^ y1.m.o = r * 2 ^ x.m.o := by rw [n1, o1, Nat.succ_mul, Nat.add_sub_cancel]
        have W1' : WS S c y1 (fset g x.m.o ((g x.m.o).filter (· ≠ r * 2 ^ x.m.o))) ((y1.m.n - 2 ^ y1.m.o, y1.m.o) :: L) := by rw [et1, o1]; exact W1
        have sn1 : y1.st.n = r + 1 := by rw [M1.k.1, hr]
        obtain ⟨W2, o2, n2⟩ := goS W1' (by omega) (by rw [et1]; exact Wy.rep.sF (k := x.m.o) (by omega) hin)
        have hdiv : 1 ≤ y1.m.n / 2 ^ y1.m.o := by
          rw [n1, o1, Nat.mul_div_cancel _ h0]; omega
        refine ⟨_, rfl, _, (by rw [← hq]; exact pl_c1 H1), ?_⟩
        refine pm_Shrink_ok (k := 1) W1.ok.m (by omega) (bu_map (pl_bu H1)) (fun t et ht' h2 w2 S2 => ⟨_, rfl, ?_⟩) fun hc => absurd (show (0 : Int) ≤ 1 ∧ (1 : Int) ≤ ((y1.m.n / 2 ^ y1.m.o : Nat) : Int) from ⟨by omega, by omega⟩) hc
        have et' : t = 1 := by omega
        subst et'
        have T2 := T1.trans (pl_lift (x' := ⟨y1.st, y1.hd, mShrink y1.m 1⟩) H1 (B' := { Q'.B with w := w2 }) ⟨rfl, rfl, rfl⟩ (bu_liftw (pl_bu H1) rfl S2))
        have H2 : (plR c ⟨Q'.pb, { Q'.B with w := w2 }⟩ ⟨y1.st, y1.hd, mShrink y1.m 1⟩).P h2 := T2.p
        have k0 := pl_c0 H2
        have b2 := pl_bu H2
        refine ⟨_, rfl, _, (by rw [← hq]; exact k0), ?_⟩
        refine mem_Decommit_ok (k := 1) (by omega) (bu_sp b2) (fun hc => absurd hc (by show ¬ ((1 : Int) < 0 ∨ ((y1.st.n : Nat) : Int) < 1); omega)) fun m em hm h3 u3 hs3 H3 => ⟨_, rfl, ?_⟩
        have em : m = y1.st.n - 1 := by have em : (m : Int) = (y1.st.n : Int) - 1 := em; omega
        subst em
        have S3 : Stp h2 h3 (spR Q'.B.s c Q'.B.Z y1.st) (spR Q'.B.s c Q'.B.Z ⟨y1.st.n - 1, y1.st.M⟩) := ⟨u3, H3, fun b e => .inl e⟩
        have T3 := T2.trans (pl_lift' (Q := ⟨Q'.pb, { Q'.B with w := w2 }⟩) (x' := ⟨⟨y1.st.n - 1, y1.st.M⟩, y1.hd, mShrink y1.m 1⟩) H2 (bu_liftsp b2 S3))
        rw [show IntKind.wrap .i64 ((k : Int) + 1) = ((k + 1 : Nat) : Int) by rw [IntKind.wrap_i64]; omega]
        refine ih (k + 1) h3 ⟨Q'.pb, { Q'.B with w := w2 }⟩ ⟨⟨y1.st.n - 1, y1.st.M⟩, y1.hd, mShrink y1.m 1⟩ _ (by show y1.st.n - 1 = r; omega) (by omega) hq hB ?_ W2 (by show y1.m.o = x.m.o; exact o1) ?_ ?_ T3
        · rw [ht]
          conv => lhs; unfold trimF
          rw [if_pos hin]
        · intro z hz y' hy1 hy2
          show y1.st.M y' = _
          rw [M1.k.2 z hz y' hy1 hy2]
          exact ky z hz y' hy1 hy2
        · intro z hz q hq
          show y1.m.pg q = _
          rw [M1.pk z hz q hq]
          exact py z hz q hq
      · refine pullBN Wy (pl_bu Hy) (by rw [et, oy]; exact hin) fun h1 S1 => ⟨_, rfl, iF rfl (hJ1 _ _ ?_)⟩
        have := hK y g Q' h1 hq hB (by rw [ht, hr]; unfold trimF; rw [if_neg hin]) Wy oy (by omega) ky py (S'.trans (pl_lift' Hy S1))
        rw [show x.st.n - y.st.n = k by omega] at this
        exact this
  exact key x.st.n 0 h Q x fl rfl (by omega) rfl ⟨rfl, rfl, rfl⟩ rfl W rfl (fun z hz y _ _ => rfl) (PK.refl _ _) (Stp.refl H)

end
end Go.Proofs.YteemmpkhdllapaaDoor
