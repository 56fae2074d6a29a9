/- croftlaw6: RegionPlays. No condition. -/
import Derived.Test.YtippbfnhgooepaaZD5
import Derived.Test.YtippbfnhgooepaaZCB
import Derived.Test.YtippbfnhgooepaaZGcroftlaw6RegionPlays
set_option linter.unusedSimpArgs false
set_option linter.unusedVariables false
namespace Go.Proofs.Ytippbfnhgooepaa
open Go.V Classical

/-- A call played, and its answer put into a new box: the box first or last. -/
def Play2 (w₀ : World) (pb : Nat) (c : Cfg) (r : Nat) (Y : RW6) (O : Nat) (L : List PBk) (o : O6) (a : Addr) (tb : Nat) (h : Heap) (A : Addr → Bool → Heap → Prop) : Prop :=
  (CallV Try.prog w₀ F.croftlaw6_played [.pointer (some ⟨pb, 0, none⟩), .agg #[.int .u64 c.base, .int .i64 c.limit, .int .i64 c.order, .int .i64 (r : Int), .slice Y.fp (O + 1) Y.fc, .slice Y.vp L.length Y.vc], .agg #[.int .i64 o.kind, .int .i64 o.order, .int .i64 o.which, .int .i64 o.more, .bool o.deny, .int .u64 o.at', .slice o.dp o.dn o.dc]] h fun (v : Value) (h4 : Heap) => ∃ r0 : Int, ∃ r1 : Int, ∃ r2 : Int, ∃ r3 : Int, ∃ r4p : Option Addr, ∃ r4n : Nat, ∃ r4c : Nat, ∃ r5p : Option Addr, ∃ r5n : Nat, ∃ r5c : Nat, ∃ rb : Bool, v = (.tuple #[.agg #[.int .u64 r0, .int .i64 r1, .int .i64 r2, .int .i64 r3, .slice r4p r4n r4c, .slice r5p r5n r5c], .bool rb]) ∧ (cellAt (Array.push h4 (.cells #[.int .u64 0, .int .i64 0, .int .i64 0, .int .i64 0, .slice none 0 0, .slice none 0 0] T.T_croftref6_Pool)) a = some (.int .i64 o.kind) ∧ cellAt (Array.push h4 (.cells #[.int .u64 0, .int .i64 0, .int .i64 0, .int .i64 0, .slice none 0 0, .slice none 0 0] T.T_croftref6_Pool)) (a.add 1) = some (.int .i64 o.order) ∧ cellAt (Array.push h4 (.cells #[.int .u64 0, .int .i64 0, .int .i64 0, .int .i64 0, .slice none 0 0, .slice none 0 0] T.T_croftref6_Pool)) (a.add 2) = some (.int .i64 o.which) ∧ cellAt (Array.push h4 (.cells #[.int .u64 0, .int .i64 0, .int .i64 0, .int .i64 0, .slice none 0 0, .slice none 0 0] T.T_croftref6_Pool)) (a.add 3) = some (.int .i64 o.more) ∧ cellAt (Array.push h4 (.cells #[.int .u64 0, .int .i64 0, .int .i64 0, .int .i64 0, .slice none 0 0, .slice none 0 0] T.T_croftref6_Pool)) (a.add 4) = some (.bool o.deny) ∧ cellAt (Array.push h4 (.cells #[.int .u64 0, .int .i64 0, .int .i64 0, .int .i64 0, .slice none 0 0, .slice none 0 0] T.T_croftref6_Pool)) (a.add 5) = some (.int .u64 o.at') ∧ cellAt (Array.push h4 (.cells #[.int .u64 0, .int .i64 0, .int .i64 0, .int .i64 0, .slice none 0 0, .slice none 0 0] T.T_croftref6_Pool)) (a.add 6) = some (.slice o.dp o.dn o.dc) ∧ cellAt (Array.push h4 (.cells #[.int .u64 0, .int .i64 0, .int .i64 0, .int .i64 0, .slice none 0 0, .slice none 0 0] T.T_croftref6_Pool)) (⟨tb, 0, none⟩ : Addr) = some (.int .u64 c.base) ∧ cellAt (Array.push h4 (.cells #[.int .u64 0, .int .i64 0, .int .i64 0, .int .i64 0, .slice none 0 0, .slice none 0 0] T.T_croftref6_Pool)) ((⟨tb, 0, none⟩ : Addr).add 1) = some (.int .i64 c.limit) ∧ cellAt (Array.push h4 (.cells #[.int .u64 0, .int .i64 0, .int .i64 0, .int .i64 0, .slice none 0 0, .slice none 0 0] T.T_croftref6_Pool)) ((⟨tb, 0, none⟩ : Addr).add 2) = some (.int .i64 c.order) ∧ cellAt (Array.push h4 (.cells #[.int .u64 0, .int .i64 0, .int .i64 0, .int .i64 0, .slice none 0 0, .slice none 0 0] T.T_croftref6_Pool)) ((⟨tb, 0, none⟩ : Addr).add 3) = some (.int .i64 (r : Int)) ∧ cellAt (Array.push h4 (.cells #[.int .u64 0, .int .i64 0, .int .i64 0, .int .i64 0, .slice none 0 0, .slice none 0 0] T.T_croftref6_Pool)) ((⟨tb, 0, none⟩ : Addr).add 4) = some (.slice Y.fp (O + 1) Y.fc) ∧ cellAt (Array.push h4 (.cells #[.int .u64 0, .int .i64 0, .int .i64 0, .int .i64 0, .slice none 0 0, .slice none 0 0] T.T_croftref6_Pool)) ((⟨tb, 0, none⟩ : Addr).add 5) = some (.slice Y.vp L.length Y.vc) ∧ (WrN (Array.push h4 (.cells #[.int .u64 0, .int .i64 0, .int .i64 0, .int .i64 0, .slice none 0 0, .slice none 0 0] T.T_croftref6_Pool)) (⟨h4.size, 0, none⟩ : Addr) 6 ∧ A ⟨h4.size, 0, none⟩ rb (setCs (Array.push h4 (.cells #[.int .u64 0, .int .i64 0, .int .i64 0, .int .i64 0, .slice none 0 0, .slice none 0 0] T.T_croftref6_Pool)) (⟨h4.size, 0, none⟩ : Addr) 0 [.int .u64 r0, .int .i64 r1, .int .i64 r2, .int .i64 r3, .slice r4p r4n r4c, .slice r5p r5n r5c])))) ∧ (cellAt (Array.push h (.cells #[.int .u64 0, .int .i64 0, .int .i64 0, .int .i64 0, .slice none 0 0, .slice none 0 0] T.T_croftref6_Pool)) a = some (.int .i64 o.kind) ∧ cellAt (Array.push h (.cells #[.int .u64 0, .int .i64 0, .int .i64 0, .int .i64 0, .slice none 0 0, .slice none 0 0] T.T_croftref6_Pool)) (a.add 1) = some (.int .i64 o.order) ∧ cellAt (Array.push h (.cells #[.int .u64 0, .int .i64 0, .int .i64 0, .int .i64 0, .slice none 0 0, .slice none 0 0] T.T_croftref6_Pool)) (a.add 2) = some (.int .i64 o.which) ∧ cellAt (Array.push h (.cells #[.int .u64 0, .int .i64 0, .int .i64 0, .int .i64 0, .slice none 0 0, .slice none 0 0] T.T_croftref6_Pool)) (a.add 3) = some (.int .i64 o.more) ∧ cellAt (Array.push h (.cells #[.int .u64 0, .int .i64 0, .int .i64 0, .int .i64 0, .slice none 0 0, .slice none 0 0] T.T_croftref6_Pool)) (a.add 4) = some (.bool o.deny) ∧ cellAt (Array.push h (.cells #[.int .u64 0, .int .i64 0, .int .i64 0, .int .i64 0, .slice none 0 0, .slice none 0 0] T.T_croftref6_Pool)) (a.add 5) = some (.int .u64 o.at') ∧ cellAt (Array.push h (.cells #[.int .u64 0, .int .i64 0, .int .i64 0, .int .i64 0, .slice none 0 0, .slice none 0 0] T.T_croftref6_Pool)) (a.add 6) = some (.slice o.dp o.dn o.dc) ∧ cellAt (Array.push h (.cells #[.int .u64 0, .int .i64 0, .int .i64 0, .int .i64 0, .slice none 0 0, .slice none 0 0] T.T_croftref6_Pool)) (⟨tb, 0, none⟩ : Addr) = some (.int .u64 c.base) ∧ cellAt (Array.push h (.cells #[.int .u64 0, .int .i64 0, .int .i64 0, .int .i64 0, .slice none 0 0, .slice none 0 0] T.T_croftref6_Pool)) ((⟨tb, 0, none⟩ : Addr).add 1) = some (.int .i64 c.limit) ∧ cellAt (Array.push h (.cells #[.int .u64 0, .int .i64 0, .int .i64 0, .int .i64 0, .slice none 0 0, .slice none 0 0] T.T_croftref6_Pool)) ((⟨tb, 0, none⟩ : Addr).add 2) = some (.int .i64 c.order) ∧ cellAt (Array.push h (.cells #[.int .u64 0, .int .i64 0, .int .i64 0, .int .i64 0, .slice none 0 0, .slice none 0 0] T.T_croftref6_Pool)) ((⟨tb, 0, none⟩ : Addr).add 3) = some (.int .i64 (r : Int)) ∧ cellAt (Array.push h (.cells #[.int .u64 0, .int .i64 0, .int .i64 0, .int .i64 0, .slice none 0 0, .slice none 0 0] T.T_croftref6_Pool)) ((⟨tb, 0, none⟩ : Addr).add 4) = some (.slice Y.fp (O + 1) Y.fc) ∧ cellAt (Array.push h (.cells #[.int .u64 0, .int .i64 0, .int .i64 0, .int .i64 0, .slice none 0 0, .slice none 0 0] T.T_croftref6_Pool)) ((⟨tb, 0, none⟩ : Addr).add 5) = some (.slice Y.vp L.length Y.vc) ∧ (CallV Try.prog w₀ F.croftlaw6_played [.pointer (some ⟨pb, 0, none⟩), .agg #[.int .u64 c.base, .int .i64 c.limit, .int .i64 c.order, .int .i64 (r : Int), .slice Y.fp (O + 1) Y.fc, .slice Y.vp L.length Y.vc], .agg #[.int .i64 o.kind, .int .i64 o.order, .int .i64 o.which, .int .i64 o.more, .bool o.deny, .int .u64 o.at', .slice o.dp o.dn o.dc]] (Array.push h (.cells #[.int .u64 0, .int .i64 0, .int .i64 0, .int .i64 0, .slice none 0 0, .slice none 0 0] T.T_croftref6_Pool)) fun (v : Value) (h4 : Heap) => ∃ r0 : Int, ∃ r1 : Int, ∃ r2 : Int, ∃ r3 : Int, ∃ r4p : Option Addr, ∃ r4n : Nat, ∃ r4c : Nat, ∃ r5p : Option Addr, ∃ r5n : Nat, ∃ r5c : Nat, ∃ rb : Bool, v = (.tuple #[.agg #[.int .u64 r0, .int .i64 r1, .int .i64 r2, .int .i64 r3, .slice r4p r4n r4c, .slice r5p r5n r5c], .bool rb]) ∧ (WrN h4 (⟨h.size, 0, none⟩ : Addr) 6 ∧ A ⟨h.size, 0, none⟩ rb (setCs h4 (⟨h.size, 0, none⟩ : Addr) 0 [.int .u64 r0, .int .i64 r1, .int .i64 r2, .int .i64 r3, .slice r4p r4n r4c, .slice r5p r5n r5c]))))

section
variable {w₀ : World} {h0 h : Heap} {c : Cfg} {Q : PL} {x : BU} {Y : RW6} {O : Nat} {fl : Nat → List Nat} {L : List PBk} {rs : List Res}

theorem off_Zp {q : Option Addr} {c' : Cfg} {Y' : RW6} (I : Hold h0 h rs) (hm : ptR c O Q x Y fl L ∈ rs) (ho : Off (fun b => h0.size ≤ b) q) : Off Q.B.Z q := fun a e hz => ho a e (I.ge _ hm _ (.inl (.inr (.inr (.inl (.inr hz))))))

set_option maxHeartbeats 1000000 in
theorem play2_ok {pb r tb : Nat} {o : O6} {a : Addr} {A : Addr → Bool → Heap → Prop} (W : WI c x fl L) (hOo : x.m.o = O) (hq : Q.pb = pb) (er : r = x.st.n) (ok : o.Ok h0)
    (hcell : ∀ h', Upd NoB h0 h' → cellAt h' a = some (.int .i64 o.kind) ∧ cellAt h' (a.add 1) = some (.int .i64 o.order) ∧ cellAt h' (a.add 2) = some (.int .i64 o.which) ∧ cellAt h' (a.add 3) = some (.int .i64 o.more) ∧ cellAt h' (a.add 4) = some (.bool o.deny) ∧ cellAt h' (a.add 5) = some (.int .u64 o.at') ∧ cellAt h' (a.add 6) = some (.slice o.dp o.dn o.dc))
    (I : Hold h0 h (blkR tb 6 (pvF c r Y O L) :: ptR c O Q x Y fl L :: rs))
    (hA : ∀ (x' : BU) (fl' : Nat → List Nat) (L' : List PBk) (Q' : PL) (Y' : RW6) (nb : Nat) (h' : Heap), Q'.pb = pb → WI c x' fl' L' → x'.m.o = O → (L'.length = L.length → (o.kind = 1 ∨ o.kind = 2 ∨ o.kind = 3) → x' = x ∧ fl' = fl ∧ L' = L) →
      Hold h0 h' (blkR nb 6 (pvF c x'.st.n Y' O L') :: blkR tb 6 (pvF c r Y O L) :: ptR c O Q' x' Y' fl' L' :: rs) → A ⟨nb, 0, none⟩ true h') :
    Play2 w₀ pb c r Y O L o a tb h A := by
  subst er
  subst hq
  refine ⟨?_, ?_⟩
  · refine played6_ok (o := o) (fl := fl) W hOo ok.a ok.dc (ok.row.upd I.u fun _ _ => id) ok.by8 (ok.off.imp id fun ho => off_Zp (c' := c) (Y' := Y) I (List.mem_cons_of_mem _ (List.mem_cons_self ..)) ho) (I.at 1) fun x' fl' L' Q' Y' h4 hq' W' o' hcl S4 => ⟨_, _, _, _, _, _, _, _, _, _, _, rfl, ?_⟩
    have I4 := I.step 1 S4
    have N5 := box6 h4 (.int .u64 0) (.int .i64 0) (.int .i64 0) (.int .i64 0) (.slice none 0 0) (.slice none 0 0) T.T_croftref6_Pool
    generalize Array.push h4 (.cells #[.int .u64 0, .int .i64 0, .int .i64 0, .int .i64 0, .slice none 0 0, .slice none 0 0] T.T_croftref6_Pool) = h5 at N5 ⊢
    obtain ⟨nb, enb⟩ : ∃ nb, nb = Array.size h4 := ⟨_, rfl⟩
    rw [← enb] at N5 ⊢
    have I5 := I4.new N5
    obtain ⟨d0, d1, d2, d3, d4, d5, d6⟩ := hcell h5 I5.u
    obtain ⟨k0, k1, k2, k3, k4, k5⟩ := f6_cells (I5.at 1)
    refine ⟨d0, d1, d2, d3, d4, d5, d6, k0, k1, k2, k3, k4, k5, ?_⟩
    obtain ⟨wI6, SI6⟩ := assign6 (I5.at 0) (.int .u64 c.base) (.int .i64 c.limit) (.int .i64 c.order) (.int .i64 (x'.st.n : Int)) (.slice Y'.fp (O + 1) Y'.fc) (.slice Y'.vp L'.length Y'.vc)
    have I6 := I5.step 0 SI6
    refine ⟨wI6, ?_⟩
    generalize setCs h5 ⟨nb, 0, none⟩ 0 [.int .u64 c.base, .int .i64 c.limit, .int .i64 c.order, .int .i64 (x'.st.n : Int), .slice Y'.fp (O + 1) Y'.fc, .slice Y'.vp L'.length Y'.vc] = h6 at I6 ⊢
    exact hA x' fl' L' Q' Y' nb h6 hq' W' o' hcl I6
  · have N5 := box6 h (.int .u64 0) (.int .i64 0) (.int .i64 0) (.int .i64 0) (.slice none 0 0) (.slice none 0 0) T.T_croftref6_Pool
    generalize Array.push h (.cells #[.int .u64 0, .int .i64 0, .int .i64 0, .int .i64 0, .slice none 0 0, .slice none 0 0] T.T_croftref6_Pool) = h5 at N5 ⊢
    obtain ⟨nb, enb⟩ : ∃ nb, nb = Array.size h := ⟨_, rfl⟩
    rw [← enb] at N5 ⊢
    have I5 := I.new N5
    obtain ⟨d0, d1, d2, d3, d4, d5, d6⟩ := hcell h5 I5.u
    obtain ⟨k0, k1, k2, k3, k4, k5⟩ := f6_cells (I5.at 1)
    refine ⟨d0, d1, d2, d3, d4, d5, d6, k0, k1, k2, k3, k4, k5, ?_⟩
    refine played6_ok (o := o) (fl := fl) W hOo ok.a ok.dc (ok.row.upd I5.u fun _ _ => id) ok.by8 (ok.off.imp id fun ho => off_Zp (c' := c) (Y' := Y) I5 (List.mem_cons_of_mem _ (List.mem_cons_of_mem _ (List.mem_cons_self ..))) ho) (I5.at 2) fun x' fl' L' Q' Y' h4 hq' W' o' hcl S4 => ⟨_, _, _, _, _, _, _, _, _, _, _, rfl, ?_⟩
    have I4 := I5.step 2 S4
    obtain ⟨wI6, SI6⟩ := assign6 (I4.at 0) (.int .u64 c.base) (.int .i64 c.limit) (.int .i64 c.order) (.int .i64 (x'.st.n : Int)) (.slice Y'.fp (O + 1) Y'.fc) (.slice Y'.vp L'.length Y'.vc)
    have I6 := I4.step 0 SI6
    refine ⟨wI6, ?_⟩
    generalize setCs h4 ⟨nb, 0, none⟩ 0 [.int .u64 c.base, .int .i64 c.limit, .int .i64 c.order, .int .i64 (x'.st.n : Int), .slice Y'.fp (O + 1) Y'.fc, .slice Y'.vp L'.length Y'.vc] = h6 at I6 ⊢
    exact hA x' fl' L' Q' Y' nb h6 hq' W' o' hcl I6
end

set_option maxHeartbeats 4000000 in
theorem RegionPlays_law {w : World} {a b d : Int} {p : Option Addr} {n cp : Nat} (ha : (Lit.int .u64 a).wf = true) (hb : (Lit.int .i64 b).wf = true) (hd : (Lit.int .i64 d).wf = true) (hs : Ops6 w.heap p n cp) :
    CallV Try.prog w F.croftlaw6_RegionPlays [.agg #[.int .u64 a, .int .i64 b, .int .i64 d], .slice p n cp] w.heap fun v h' => v = .bool true ∧ Upd NoB w.heap h' := by
  obtain ⟨f, hn, hcp, hr, hop⟩ := hs
  have hfin : ∀ h', Upd NoB w.heap h' → (fun (r : Value) (h' : Heap) => r = Value.bool true ∧ Upd NoB w.heap h') (.bool true) h' := fun h' u => ⟨rfl, u⟩
  generalize (fun (r : Value) (h' : Heap) => r = Value.bool true ∧ Upd NoB w.heap h') = K at hfin ⊢
  refine croftlaw6_RegionPlays.call ?_
  unfold croftlaw6_RegionPlays.vc
  have N0 := box3 w.heap (.int .u64 a) (.int .i64 b) (.int .i64 d) T.T_api_Config
  generalize Array.push w.heap (.cells #[.int .u64 a, .int .i64 b, .int .i64 d] T.T_api_Config) = h0 at N0 ⊢
  have I0 := (Hold.nil w.heap).new N0
  refine awake6_ok fun h1 u1 => ⟨_, rfl, iF rfl ?_⟩
  have I1 := I0.quiet u1
  obtain ⟨k0, k1, k2⟩ := f3_cells (I1.at 0)
  refine ⟨_, k0, _, k1, _, k2, region_New_ok (wf_u64 ha) (fun hbad h2 u2 => ⟨_, _, rfl, ?_⟩) fun g h2 Q N2 => ⟨_, _, rfl, ?_⟩⟩
  · have I2 := I1.quiet u2
    obtain ⟨k0, k1, k2⟩ := f3_cells (I2.at 0)
    refine ⟨_, k0, _, k1, _, k2, ref2_May_ok (wf_u64 ha) fun h3 u3 => ⟨_, rfl, ?_⟩⟩
    rw [decide_eq_false hbad]
    exact iT rfl (hfin _ (I2.quiet u3).u)
  have I2 := I1.new N2
  obtain ⟨k0, k1, k2⟩ := f3_cells (I2.at 1)
  refine ⟨_, k0, _, k1, _, k2, ref2_May_ok (wf_u64 ha) fun h3 u3 => ⟨_, rfl, ?_⟩⟩
  rw [decide_eq_true g]
  have I3 := I2.quiet u3
  have W0 := wi0 g
  have mo : (BU0 ⟨a, b, d⟩).m.o = d.toNat := bu0_o g
  have sn : (BU0 ⟨a, b, d⟩).st.n = 0 := rfl
  have g0 := g.o0
  have g8 := g.o8
  simp only [] at g0 g8
  obtain ⟨O, rfl⟩ : ∃ O : Nat, d = O := ⟨d.toNat, by omega⟩
  rw [Int.toNat_natCast] at mo
  generalize BU0 ⟨a, b, (O : Int)⟩ = x0 at I3 W0 mo sn
  obtain ⟨k0, k1, k2⟩ := f3_cells (I3.at 1)
  refine iF rfl (iF rfl ⟨_, k0, _, k1, _, k2, New6_ok (by omega) fun h4 Y0 N4 => ⟨_, _, _, _, _, _, _, _, _, _, rfl, ?_⟩⟩)
  obtain ⟨c, hc⟩ : ∃ c : Cfg, c = ⟨a, b, O⟩ := ⟨_, rfl⟩
  have N5 := box6 h4 (.int .u64 0) (.int .i64 0) (.int .i64 0) (.int .i64 0) (.slice none 0 0) (.slice none 0 0) T.T_croftref6_Pool
  generalize Array.push h4 (.cells #[.int .u64 0, .int .i64 0, .int .i64 0, .int .i64 0, .slice none 0 0, .slice none 0 0] T.T_croftref6_Pool) = h5 at N5 ⊢
  obtain ⟨tb, etb⟩ : ∃ tb, tb = Array.size h4 := ⟨_, rfl⟩
  rw [← etb] at N5 ⊢
  have I5 := (I3.new N4).new N5
  rw [← hc] at I5 W0 ⊢
  obtain ⟨wI6, SI6⟩ := assign6 (I5.at 0) (.int .u64 c.base) (.int .i64 c.limit) (.int .i64 c.order) (.int .i64 ((0 : Nat) : Int)) (.slice Y0.fp (O + 1) Y0.fc) (.slice Y0.vp ([] : List PBk).length Y0.vc)
  have I6 := I5.step 0 SI6
  refine ⟨wI6, ?_⟩
  generalize setCs h5 ⟨tb, 0, none⟩ 0 [.int .u64 c.base, .int .i64 c.limit, .int .i64 c.order, .int .i64 ((0 : Nat) : Int), .slice Y0.fp (O + 1) Y0.fc, .slice Y0.vp ([] : List PBk).length Y0.vc] = h6 at I6 ⊢
  have I6 : Hold w.heap h6 [blkR tb 6 (pvF c 0 Y0 O []), rfR Y0 O (fun _ => []) [], plR c Q x0, blkR w.heap.size 3 (f3 (.int .u64 a) (.int .i64 b) (.int .i64 (O : Int)))] := I6
  have I7 : Hold w.heap h6 [blkR tb 6 (pvF c 0 Y0 O []), ptR c O Q x0 Y0 (fun _ => []) [], blkR w.heap.size 3 (f3 (.int .u64 a) (.int .i64 b) (.int .i64 (O : Int)))] := I6.swap2.swap.swap2.join.swap
  have I7 := I7
  clear I6 I5 N5 N4 I3 N2 I2 I1 I0 N0
  have hgood : c.Good := by rw [hc]; exact g
  intro J8 hJ8 L10 hL10
  generalize hpb : Q.pb = pb
  have loop : ∀ (k i : Nat) (hx : Heap) (Q : PL) (x : BU) (Y : RW6) (fl : Nat → List Nat) (L : List PBk), i + k = n → Q.pb = pb → WI c x fl L → x.m.o = O →
      Hold w.heap hx [blkR tb 6 (pvF c x.st.n Y O L), ptR c O Q x Y fl L, blkR w.heap.size 3 (f3 (.int .u64 a) (.int .i64 b) (.int .i64 (O : Int)))] →
      L10 [.slice p n cp, .pointer (some ⟨pb, 0, none⟩), .pointer (some ⟨tb, 0, none⟩), .int .i64 (i : Int)] hx := by
    intro k
    induction k with
    | zero =>
      intro i hx Q x Y fl L hi hq W ox I
      obtain ⟨k0, k1, k2, k3, k4, k5⟩ := f6_cells (I.at 0)
      refine hL10 _ _ _ _ _ _ _ (iF (decide_eq_false (by omega)) (hJ8 _ _ _ ⟨_, k0, _, k1, _, k2, _, k3, _, _, _, k4, _, _, _, k5, ?_⟩))
      rw [← hq]
      exact lists6_ok W ox (I.at 1) fun h9 S9 => ⟨_, rfl, hfin _ (I.step 1 S9).u⟩
    | succ k ih =>
      intro i hx Q x Y fl L hi hq W ox I
      obtain ⟨k0, k1, k2, k3, k4, k5⟩ := f6_cells (I.at 0)
      obtain ⟨ad, ead, hcell⟩ := op6_at hr (i := i) (by omega)
      have ok := hop i (by omega)
      generalize f i = o at hcell ok
      obtain ⟨d0, d1, d2, d3, d4, d5, d6⟩ := hcell hx I.u
      have hwr : IntKind.wrap .i64 ((i : Int) + 1) = ((i + 1 : Nat) : Int) := by rw [IntKind.wrap_i64]; omega
      refine hL10 _ _ _ _ _ _ _ (iT (decide_eq_true (by omega)) fun J11 hJ11 => ⟨_, k0, _, k1, _, k2, _, k3, _, _, _, k4, _, _, _, k5, ad, ead, by omega, by omega, _, d0, _, d1, _, d2, _, d3, _, d4, _, d5, _, _, _, d6, ?_⟩)
      refine play2_ok (A := fun nb b h => J11 [.slice p n cp, .pointer (some ⟨pb, 0, none⟩), .pointer (some ⟨tb, 0, none⟩), .int .i64 (i : Int), .pointer (some nb), .bool b] h) W ox hq rfl ok hcell I fun x' fl' L' Q' Y' nb h9 hq' W' o' _ I9 => ?_
      obtain ⟨m0, m1, m2, m3, m4, m5⟩ := f6_cells (I9.at 0)
      refine hJ11 _ _ _ _ _ _ _ _ _ fun J12 hJ12 => pF rfl ⟨_, m0, _, m1, _, m2, _, m3, _, _, _, m4, _, _, _, m5, ?_⟩
      rw [← hq']
      refine lists6_ok W' o' (I9.at 2) fun ha Sa => ⟨_, rfl, hJ12 _ _ (iF rfl ?_)⟩
      have Ia := I9.step 2 Sa
      obtain ⟨m0, m1, m2, m3, m4, m5⟩ := f6_cells (Ia.at 0)
      refine ⟨_, m0, _, m1, _, m2, _, m3, _, _, _, m4, _, _, _, m5, ?_⟩
      obtain ⟨wIb, SIb⟩ := assign6 (Ia.at 1) (.int .u64 c.base) (.int .i64 c.limit) (.int .i64 c.order) (.int .i64 (x'.st.n : Int)) (.slice Y'.fp (O + 1) Y'.fc) (.slice Y'.vp L'.length Y'.vc)
      have Ib := Ia.step 1 SIb
      refine ⟨wIb, ?_⟩
      generalize setCs ha ⟨tb, 0, none⟩ 0 [.int .u64 c.base, .int .i64 c.limit, .int .i64 c.order, .int .i64 (x'.st.n : Int), .slice Y'.fp (O + 1) Y'.fc, .slice Y'.vp L'.length Y'.vc] = hb' at Ib ⊢
      rw [hwr]
      exact ih (i + 1) hb' Q' x' Y' fl' L' (by omega) hq' W' o' Ib.drop
  exact loop n 0 h6 Q x0 Y0 _ [] (by omega) hpb W0 mo (by rw [sn]; exact I7)
end Go.Proofs.Ytippbfnhgooepaa
