/- croftlaw6: RegionPlays. No condition. -/
import Derived.Test.YtippbfnhgooepaaZD5
import Derived.Test.YtippbfnhgooepaaZCB
import Derived.Test.YtippbfnhgooepaaZGcroftlaw6RegionPlays
set_option linter.unusedSimpArgs false
set_option linter.unusedVariables false
namespace Go.Proofs.Ytippbfnhgooepaa
open Go.V Classical

def Play2 (w₀ : World) (pb : Nat) (c : Cfg) (r : Nat) (Y : RW6) (O : Nat) (L : List PBk) (o : O6) (a : Addr) (tb : Nat) (h : Heap) (A : Addr → Bool → Heap → Prop) : Prop :=
  (CallV Try.prog w₀ F.croftlaw6_played [.pointer (some ⟨pb, 0, none⟩), .agg #[.int .u64 c.base, .int .i64 c.limit, .int .i64 c.order, .int .i64 (r : Int), .slice Y.fp (O + 1) Y.fc, .slice Y.vp L.length Y.vc], .agg #[.int .i64 o.kind, .int .i64 o.order, .int .i64 o.which, .int .i64 o.more, .bool o.deny, .int .u64 o.at', .slice o.dp o.dn o.dc]] h fun (v : Value) (h4 : Heap) => ∃ r0 : Int, ∃ r1 : Int, ∃ r2 : Int, ∃ r3 : Int, ∃ r4p : Option Addr, ∃ r4n : Nat, ∃ r4c : Nat, ∃ r5p : Option Addr, ∃ r5n : Nat, ∃ r5c : Nat, ∃ rb : Bool, v = (.tuple #[.agg #[.int .u64 r0, .int .i64 r1, .int .i64 r2, .int .i64 r3, .slice r4p r4n r4c, .slice r5p r5n r5c], .bool rb]) ∧ (cellAt (Array.push h4 (.cells #[.int .u64 0, .int .i64 0, .int .i64 0, .int .i64 0, .slice none 0 0, .slice none 0 0] T.T_croftref6_Pool)) a = some (.int .i64 o.kind) ∧ cellAt (Array.push h4 (.cells #[.int .u64 0, .int .i64 0, .int .i64 0, .int .i64 0, .slice none 0 0, .slice none 0 0] T.T_croftref6_Pool)) (a.add 1) = some (.int .i64 o.order) ∧ cellAt (Array.push h4 (.cells #[.int .u64 0, .int .i64 0, .int .i64 0, .int .i64 0, .slice none 0 0, .slice none 0 0] T.T_croftref6_Pool)) (a.add 2) = some (.int .i64 o.which) ∧ cellAt (Array.push h4 (.cells #[.int .u64 0, .int .i64 0, .int .i64 0, .int .i64 0, .slice none 0 0, .slice none 0 0] T.T_croftref6_Pool)) (a.add 3) = some (.int .i64 o.more) ∧ cellAt (Array.push h4 (.cells #[.int .u64 0, .int .i64 0, .int .i64 0, .int .i64 0, .slice none 0 0, .slice none 0 0] T.T_croftref6_Pool)) (a.add 4) = some (.bool o.deny) ∧ cellAt (Array.push h4 (.cells #[.int .u64 0, .int .i64 0, .int .i64 0, .int .i64 0, .slice none 0 0, .slice none 0 0] T.T_croftref6_Pool)) (a.add 5) = some (.int .u64 o.at') ∧ cellAt (Array.push h4 (.cells #[.int .u64 0, .int .i64 0, .int .i64 0, .int .i64 0, .slice none 0 0, .slice none 0 0] T.T_croftref6_Pool)) (a.add 6) = some (.slice o.dp o.dn o.dc) ∧ cellAt (Array.push h4 (.cells #[.int .u64 0, .int .i64 0, .int .i64 0, .int .i64 0, .slice none 0 0, .slice none 0 0] T.T_croftref6_Pool)) (⟨tb, 0, none⟩ : Addr) = some (.int .u64 c.base) ∧ cellAt (Array.push h4 (.cells #[.int .u64 0, .int .i64 0, .int .i64 0, .int .i64 0, .slice none 0 0, .slice none 0 0] T.T_croftref6_Pool)) ((⟨tb, 0, none⟩ : Addr).add 1) = some (.int .i64 c.limit) ∧ cellAt (Array.push h4 (.cells #[.int .u64 0, .int .i64 0, .int .i64 0, .int .i64 0, .slice none 0 0, .slice none 0 0] T.T_croftref6_Pool)) ((⟨tb, 0, none⟩ : Addr).add 2) = some (.int .i64 c.order) ∧ cellAt (Array.push h4 (.cells #[.int .u64 0, .int .i64 0, .int .i64 0, .int .i64 0, .slice none 0 0, .slice none 0 0] T.T_croftref6_Pool)) ((⟨tb, 0, none⟩ : Addr).add 3) = some (.int .i64 (r : Int)) ∧ cellAt (Array.push h4 (.cells #[.int .u64 0, .int .i64 0, .int .i64 0, .int .i64 0, .slice none 0 0, .slice none 0 0] T.T_croftref6_Pool)) ((⟨tb, 0, none⟩ : Addr).add 4) = some (.slice Y.fp (O + 1) Y.fc) ∧ cellAt (Array.push h4 (.cells #[.int .u64 0, .int .i64 0, .int .i64 0, .int .i64 0, .slice none 0 0, .slice none 0 0] T.T_croftref6_Pool)) ((⟨tb, 0, none⟩ : Addr).add 5) = some (.slice Y.vp L.length Y.vc) ∧ (WrN (Array.push h4 (.cells #[.int .u64 0, .int .i64 0, .int .i64 0, .int .i64 0, .slice none 0 0, .slice none 0 0] T.T_croftref6_Pool)) (⟨h4.size, 0, none⟩ : Addr) 6 ∧ A ⟨h4.size, 0, none⟩ rb (setCs (Array.push h4 (.cells #[.int .u64 0, .int .i64 0, .int .i64 0, .int .i64 0, .slice none 0 0, .slice none 0 0] T.T_croftref6_Pool)) (⟨h4.size, 0, none⟩ : Addr) 0 [.int .u64 r0, .int .i64 r1, .int .i64 r2, .int .i64 r3, .slice r4p r4n r4c, .slice r5p r5n r5c])))) ∧ (cellAt (Array.push h (.cells #[.int .u64 0, .int .i64 0, .int .i64 0, .int .i64 0, .slice none 0 0, .slice none 0 0] T.T_croftref6_Pool)) a = some (.int .i64 o.kind) ∧ cellAt (Array.push h (.cells #[.int .u64 0, .int .i64 0, .int .i64 0, .int .i64 0, .slice none 0 0, .slice none 0 0] T.T_croftref6_Pool)) (a.add 1) = some (.int .i64 o.order) ∧ cellAt (Array.push h (.cells #[.int .u64 0, .int .i64 0, .int .i64 0, .int .i64 0, .slice none 0 0, .slice none 0 0] T.T_croftref6_Pool)) (a.add 2) = some (.int .i64 o.which) ∧ cellAt (Array.push h (.cells #[.int .u64 0, .int .i64 0, .int .i64 0, .int .i64 0, .slice none 0 0, .slice none 0 0] T.T_croftref6_Pool)) (a.add 3) = some (.int .i64 o.more) ∧ cellAt (Array.push h (.cells #[.int .u64 0, .int .i64 0, .int .i64 0, .int .i64 0, .slice none 0 0, .slice none 0 0] T.T_croftref6_Pool)) (a.add 4) = some (.bool o.deny) ∧ cellAt (Array.push h (.cells #[.int .u64 0, .int .i64 0, .int .i64 0, .int .i64 0, .slice none 0 0, .slice none 0 0] T.T_croftref6_Pool)) (a.add 5) = some (.int .u64 o.at') ∧ cellAt (Array.push h (.cells #[.int .u64 0, .int .i64 0, .int .i64 0, .int .i64 0, .slice none 0 0, .slice none 0 0] T.T_croftref6_Pool)) (a.add 6) = some (.slice o.dp o.dn o.dc) ∧ cellAt (Array.push h (.cells #[.int .u64 0, .int .i64 0, .int .i64 0, .int .i64 0, .slice none 0 0, .slice none 0 0] T.T_croftref6_Pool)) (⟨tb, 0, none⟩ : Addr) = some (.int .u64 c.base) ∧ cellAt (Array.push h (.cells #[.int .u64 0, .int .i64 0, .int .i64 0, .int .i64 0, .slice none 0 0, .slice none 0 0] T.T_croftref6_Pool)) ((⟨tb, 0, none⟩ : Addr).add 1) = some (.int .i64 c.limit) ∧ cellAt (Array.push h (.cells #[.int .u64 0, .int .i64 0, .int .i64 0, .int .i64 0, .slice none 0 0, .slice none 0 0] T.T_croftref6_Pool)) ((⟨tb, 0, none⟩ : Addr).add 2) = some (.int .i64 c.order) ∧ cellAt (Array.push h (.cells #[.int .u64 0, .int .i64 0, .int .i64 0, .int .i64 0, .slice none 0 0, .slice none 0 0] T.T_croftref6_Pool)) ((⟨tb, 0, none⟩ : Addr).add 3) = some (.int .i64 (r : Int)) ∧ cellAt (Array.push h (.cells #[.int .u64 0, .int .i64 0, .int .i64 0, .int .i64 0, .slice none 0 0, .slice none 0 0] T.T_croftref6_Pool)) ((⟨tb, 0, none⟩ : Addr).add 4) = some (.slice Y.fp (O + 1) Y.fc) ∧ cellAt (Array.push h (.cells #[.int .u64 0, .int .i64 0, .int .i64 0, .int .i64 0, .slice none 0 0, .slice none 0 0] T.T_croftref6_Pool)) ((⟨tb, 0, none⟩ : Addr).add 5) = some (.slice Y.vp L.length Y.vc) ∧ (CallV Try.prog w₀ F.croftlaw6_played [.pointer (some ⟨pb, 0, none⟩), .agg #[.int .u64 c.base, .int .i64 c.limit, .int .i64 c.order, .int .i64 (r : Int), .slice Y.fp (O + 1) Y.fc, .slice Y.vp L.length Y.vc], .agg #[.int .i64 o.kind, .int .i64 o.order, .int .i64 o.which, .int .i64 o.more, .bool o.deny, .int .u64 o.at', .slice o.dp o.dn o.dc]] (Array.push h (.cells #[.int .u64 0, .int .i64 0, .int .i64 0, .int .i64 0, .slice none 0 0, .slice none 0 0] T.T_croftref6_Pool)) fun (v : Value) (h4 : Heap) => ∃ r0 : Int, ∃ r1 : Int, ∃ r2 : Int, ∃ r3 : Int, ∃ r4p : Option Addr, ∃ r4n : Nat, ∃ r4c : Nat, ∃ r5p : Option Addr, ∃ r5n : Nat, ∃ r5c : Nat, ∃ rb : Bool, v = (.tuple #[.agg #[.int .u64 r0, .int .i64 r1, .int .i64 r2, .int .i64 r3, .slice r4p r4n r4c, .slice r5p r5n r5c], .bool rb]) ∧ (WrN h4 (⟨h.size, 0, none⟩ : Addr) 6 ∧ A ⟨h.size, 0, none⟩ rb (setCs h4 (⟨h.size, 0, none⟩ : Addr) 0 [.int .u64 r0, .int .i64 r1, .int .i64 r2, .int .i64 r3, .slice r4p r4n r4c, .slice r5p r5n r5c]))))

section
variable {w₀ : World} {h0 h : Heap} {c : Cfg} {Q : PL} {x : BU} {Y : RW6} {O : Nat} {fl : Nat → List Nat} {L : List PBk} {rs : List Res}

theorem off_Zp {q : Option Addr} {c' : Cfg} {Y' : RW6} (I : Hold h0 h rs) (hm : ptR c O Q x Y fl L ∈ rs) (ho : Off (fun b => h0.size ≤ b) q) : Off Q.B.Z q := fun a e hz => ho a e (I.ge _ hm _ (.inl (.inr (.inr (.inl (.inr hz))))))

set_option maxHeartbeats 1000000 in
theorem play2_ok {pb r tb : Nat} {o : O6} {a : Addr} {A : Addr → Bool → Heap → Prop} (W : WI c x fl L) (hOo : x.m.o = O) (hq : Q.pb = pb) (er : r = x.st.n) (ok : o.Ok h0)
    (hcell : ∀ h', Upd NoB h0 h' → cellAt h' a = some (.int .i64 o.kind) ∧ cellAt h' (a.add 1) = some (.int .i64 o.order) ∧ cellAt h' (a.add 2) = some (.int .i64 o.which) ∧ cellAt h' (a.add 3) = some (.int .i64 o.more) ∧ cellAt h' (a.add 4) = some (.bool o.deny) ∧ cellAt h' (a.add 5) = some (.int .u64 o.at') ∧ cellAt h' (a.add 6) = some (.slice o.dp o.dn o.dc))
    (I : Hold h0 h (blkR tb 6 (pvF c r Y O L) :: ptR c O Q x Y fl L :: rs))
    (hA : ∀ (x' : BU) (fl' : Nat → List Nat) (L' : List PBk) (Q' : PL) (Y' : RW6) (nb : Nat) (h' : Heap), Q'.pb = pb → WI c x' fl' L' → x'.m.o = O → (L'.length = L.length → (o.kind = 1 ∨ o.kind = 2 ∨ o.kind = 3) → x' = x ∧ fl' = fl ∧ L' = L) →
      Hold h0 h' (blkR nb 6 (pvF c x'.st.n Y' O L') :: blkR tb 6 (pvF c r Y O L) :: ptR c O Q' x' Y' fl' L' :: rs) → A ⟨nb, 0, none⟩ true h') :
    Play2 w₀ pb c r Y O L o a tb h A := by
  subst er
  subst hq
  refine ⟨?_, ?_⟩
  · refine played6_ok (o := o) (fl := fl) W hOo ok.a ok.dc (ok.row.upd I.u fun _ _ => id) ok.by8 (ok.off.imp id fun ho => off_Zp (c' := c) (Y' := Y) I (List.mem_cons_of_mem _ (List.mem_cons_self ..)) ho) (I.at 1) fun x' fl' L' Q' Y' h4 hq' W' o' hcl S4 => ⟨_, _, _, _, _, _, _, _, _, _, _, rfl, ?_⟩
    have I4 := I.step 1 S4
    have N5 := box6 h4 (.int .u64 0) (.int .i64 0) (.int .i64 0) (.int .i64 0) (.slice none 0 0) (.slice none 0 0) T.T_croftref6_Pool
    generalize Array.push h4 (.cells #[.int .u64 0, .int .i64 0, .int .i64 0, .int .i64 0, .slice none 0 0, .slice none 0 0] T.T_croftref6_Pool) = h5 at N5 ⊢
    obtain ⟨nb, enb⟩ : ∃ nb, nb = Array.size h4 := ⟨_, rfl⟩
    rw [← enb] at N5 ⊢
    have I5 := I4.new N5
    obtain ⟨d0, d1, d2, d3, d4, d5, d6⟩ := hcell h5 I5.u
    obtain ⟨k0, k1, k2, k3, k4, k5⟩ := f6_cells (I5.at 1)
    refine ⟨d0, d1, d2, d3, d4, d5, d6, k0, k1, k2, k3, k4, k5, ?_⟩
    obtain ⟨wI6, SI6⟩ := assign6 (I5.at 0) (.int .u64 c.base) (.int .i64 c.limit) (.int .i64 c.order) (.int .i64 (x'.st.n : Int)) (.slice Y'.fp (O + 1) Y'.fc) (.slice Y'.vp L'.length Y'.vc)
    have I6 := I5.step 0 SI6
    refine ⟨wI6, ?_⟩
    generalize setCs h5 ⟨nb, 0, none⟩ 0 [.int .u64 c.base, .int .i64 c.limit, .int .i64 c.order, .int .i64 (x'.st.n : Int), .slice Y'.fp (O + 1) Y'.fc, .slice Y'.vp L'.length Y'.vc] = h6 at I6 ⊢
    exact hA x' fl' L' Q' Y' nb h6 hq' W' o' hcl I6
  · have N5 := box6 h (.int .u64 0) (.int .i64 0) (.int .i64 0) (.int .i64 0) (.slice none 0 0) (.slice none 0 0) T.T_croftref6_Pool
    generalize Array.push h (.cells #[.int .u64 0, .int .i64 0, .int .i64 0, .int .i64 0, .slice none 0 0, .slice none 0 0] T.T_croftref6_Pool) = h5 at N5 ⊢
    obtain ⟨nb, enb⟩ : ∃ nb, nb = Array.size h := ⟨_, rfl⟩
    rw [← enb] at N5 ⊢
    have I5 := I.new N5
    obtain ⟨d0, d1, d2, d3, d4, d5, d6⟩ := hcell h5 I5.u
    obtain ⟨k0, k1, k2, k3, k4, k5⟩ := f6_cells (I5.at 1)
    refine ⟨d0, d1, d2, d3, d4, d5, d6, k0, k1, k2, k3, k4, k5, ?_⟩
    refine played6_ok (o := o) (fl := fl) W hOo ok.a ok.dc (ok.row.upd I5.u fun _ _ => id) ok.by8 (ok.off.imp id fun ho => off_Zp (c' := c) (Y' := Y) I5 (List.mem_cons_of_mem _ (List.mem_cons_of_mem _ (List.mem_cons_self ..))) ho) (I5.at 2) fun x' fl' L' Q' Y' h4 hq' W' o' hcl S4 => ⟨_, _, _, _, _, _, _, _, _, _, _, rfl, ?_⟩
    have I4 := I5.step 2 S4
    obtain ⟨wI6, SI6⟩ := assign6 (I4.at 0) (.int .u64 c.base) (.int .i64 c.limit) (.int .i64 c.order) (.int .i64 (x'.st.n : Int)) (.slice Y'.fp (O + 1) Y'.fc) (.slice Y'.vp L'.length Y'.vc)
    have I6 := I4.step 0 SI6
    refine ⟨wI6, ?_⟩
    generalize setCs h4 ⟨nb, 0, none⟩ 0 [.int .u64 c.base, .int .i64 c.limit, .int .i64 c.order, .int .i64 (x'.st.n : Int), .slice Y'.fp (O + 1) Y'.fc, .slice Y'.vp L'.length Y'.vc] = h6 at I6 ⊢
    exact hA x' fl' L' Q' Y' nb h6 hq' W' o' hcl I6
end

end Go.Proofs.Ytippbfnhgooepaa
