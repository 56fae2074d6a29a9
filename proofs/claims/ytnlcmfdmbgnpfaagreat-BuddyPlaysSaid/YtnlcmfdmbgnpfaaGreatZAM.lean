/- croftlaw5: mapped, linked: the map and the memory are as the document says. No condition. -/
import Derived.Test.YtnlcmfdmbgnpfaaGreatZAL
import Derived.Test.YtnlcmfdmbgnpfaaGreatZBP
set_option linter.unusedSimpArgs false
set_option linter.unusedVariables false
namespace Go.Proofs.YtnlcmfdmbgnpfaaGreat
open Go.V Classical

section
variable {w₀ : World} {h h' : Heap} {c : Cfg} {Q : WZ} {x : BU} {fl : Nat → List Nat} {V : List PBk} {K : Value → Heap → Prop}

theorem row_pageZ {h : Heap} {b o n : Nat} {P : Nat → Nat → Int} (R : ∀ i, i < n * 11 → cellAt h ⟨b, o + i, none⟩ = some (pcl (i % 11) (P (i / 11) (i % 11)))) {i : Nat} (hi : i < n)
    {X : Int → Int → Int → Int → Int → Int → Int → Int → Int → Int → Int → Prop} (x : X (P i 0) (P i 1) (P i 2) (P i 3) (P i 4) (P i 5) (P i 6) (P i 7) (P i 8) (P i 9) (P i 10)) : LD_api_Page h ((⟨b, o, none⟩ : Addr).add (Int.toNat (i : Int) * 11)) X := by
  rw [add_mk, Int.toNat_natCast]
  refine ld_page (P := P i) (fun j hj => ?_) x
  have := R (i * 11 + j) (by omega)
  rw [show (i * 11 + j) % 11 = j by omega, show (i * 11 + j) / 11 = i by omega, ← Nat.add_assoc] at this
  exact this

noncomputable def wdL (f : Nat → Bool) (n : Nat) : List Int := (List.range n).map fun j => ((wd f j : Nat) : Int)
theorem wdL_len (f : Nat → Bool) (n : Nat) : (wdL f n).length = n := by simp [wdL]
theorem wdL_row {h : Heap} {f : Nat → Bool} {n cp : Nat} {p : Option Addr} (H : (slR p n cp 1 fun j => .int .u64 ((wd f j : Nat) : Int)).P h) : Row h p (wdL f n).length (uL (wdL f n)) := by
  refine uL_lit H (wdL_len f n).symm fun i hi => ?_
  rw [wdL_len] at hi
  unfold wdL
  rw [List.getD_eq_getElem?_getD, List.getElem?_map, List.getElem?_range hi]
  rfl

theorem mappedZ_ok (W : WI c x fl V) (H : (wzR c Q x fl V).P h) (hK : ∀ h', Upd NoB h h' → K (.bool true) h') :
    CallV Tryz.prog w₀ F.croftlaw5_world_mapped [.pointer (some ⟨Q.wb, 0, none⟩)] h K := by
  refine croftlaw5_world_mapped.call ?_
  unfold croftlaw5_world_mapped.vc
  have o8 := W.ok.m.o8
  have n1 := W.ok.m.n1
  have lV := W.lenV
  refine ⟨_, rfl, _, wz_cell H (i := 4) (by omega), pm_Plain_ok W.ok.m (bu_map (wz_bu H)) fun h1 gp gc qp qc wp wc N1 => ⟨_, _, _, _, _, _, rfl, ?_⟩⟩
  have I1 := (Hold.nil h).new N1
  have H1 := (wzR c Q x fl V).st H I1.u fun _ _ => id
  refine ⟨_, rfl, _, wz_cell H1 (i := 6) (by omega), _, wz_cell H1 (i := 7) (by omega), _, _, _, wz_cell H1 (i := 8) (by omega), _, _, _, wz_cell H1 (i := 9) (by omega), ?_⟩
  refine ref5_Pages_ok (Y := Q.Y) (fl := fl) (L := V) o8 (by omega) W.flOk (by omega) (fun b hb => ⟨(W.al5 b hb).1, (W.al5 b hb).2.1⟩) (wz_rf H1) fun h2 b2 N2 => ⟨_, _, _, rfl, ?_⟩
  have I2 := I1.new N2
  have H2 := (wzR c Q x fl V).st H I2.u fun _ _ => id
  refine ⟨_, rfl, _, wz_cell H2 (i := 6) (by omega), _, wz_cell H2 (i := 7) (by omega), _, _, _, wz_cell H2 (i := 8) (by omega), _, _, _, wz_cell H2 (i := 9) (by omega), ?_⟩
  refine ref5_Pairs_ok (Y := Q.Y) (fl := fl) (L := V) o8 n1 W.fl5 (wz_rf H2) fun h3 qp' qc' wp' N3 => ⟨_, _, _, rfl, fun J4 hJ4 => pF (by simp) (hJ4 _ _ (iF (by simp) fun J5 hJ5 L9 hL9 => ?_))⟩
  have I3 : Hold h h3 [andR (slR qp' x.m.o qc' 1 (poF x.m.n wp')) (pwR x.m.n x.m.o fl wp'), slR (some ⟨b2, 0, none⟩) x.m.n x.m.n 11 (pgsV (paintLv (paintO fl (x.m.o + 1)) V)), plainR x.m gp gc qp qc wp wc] := I2.new N3
  have A := I3.at 2
  have B := I3.at 1
  have D := I3.at 0
  -- the pairs' words
  have words : ∀ J6 : List Value → Heap → Prop, (∀ hJ6, K (.bool true) hJ6 → J6 [] hJ6) → ∀ L7 : List Value → Heap → Prop, (∀ (y4p : Option Addr) (y4n y4c : Nat) (y6p : Option Addr) (y6n y6c : Nat) (y8 : Int) (hL7 : Heap), (((decide (y8 < ((y6n : Nat) : Int))) = true → (∃ a62 : Addr, y4p = some a62 ∧ 0 ≤ y8 ∧ y8 < (y4n : Nat) ∧ (∃ n63p : Option Addr, ∃ n63n : Nat, ∃ n63c : Nat, cellAt hL7 (a62.add (Int.toNat y8 * 1)) = some (.slice n63p n63n n63c) ∧ (∃ a66 : Addr, y6p = some a66 ∧ 0 ≤ y8 ∧ y8 < (y6n : Nat) ∧ (∃ n67p : Option Addr, ∃ n67n : Nat, ∃ n67c : Nat, cellAt hL7 (a66.add (Int.toNat y8 * 1)) = some (.slice n67p n67n n67c) ∧ (CallV Tryz.prog w₀ F.croftlaw5_ints [.slice n63p n63n n63c, .slice n67p n67n n67c] hL7 fun (v68 : Value) (h68 : Heap) => ∃ r68 : Bool, v68 = (.bool r68) ∧ (((!r68) = true → K (.bool false) h68) ∧ ((!r68) = false → L7 [.slice y4p y4n y4c, .slice y6p y6n y6c, (.int .i64 (IntKind.wrap .i64 (y8 + (1 : Int))))] h68)))))))) ∧ ((decide (y8 < ((y6n : Nat) : Int))) = false → J6 [] hL7)) → L7 [.slice y4p y4n y4c, .slice y6p y6n y6c, .int .i64 y8] hL7) →
      ∀ (d i : Nat), i + d = x.m.o → L7 [.slice qp x.m.o qc, .slice qp' x.m.o qc', .int .i64 (i : Int)] h3 := by
    intro J6 hJ6 L7 hL7 d
    induction d with
    | zero =>
      intro i hi
      exact hL7 _ _ _ _ _ _ _ _ (iF (decide_eq_false (by omega)) (hJ6 _ (hK _ I3.u)))
    | succ d ih =>
      intro i hi
      obtain ⟨b1, e1, r1⟩ := sl_cell A.2.1.1 (i := i) (by omega)
      obtain ⟨b3, e3, r3⟩ := sl_cell D.1 (i := i) (by omega)
      have r1' : cellAt h3 ((⟨b1, 0, none⟩ : Addr).add (Int.toNat (i : Int) * 1)) = some (.slice (wp i) (nw (x.m.n / 2 ^ (i + 1))) (wc i)) := by rw [at1]; exact r1
      have r3' : cellAt h3 ((⟨b3, 0, none⟩ : Addr).add (Int.toNat (i : Int) * 1)) = some (.slice (wp' i) (nw (x.m.n / 2 ^ (i + 1))) (nw (x.m.n / 2 ^ (i + 1)))) := by rw [at1]; exact r3
      refine hL7 _ _ _ _ _ _ _ _ (iT (decide_eq_true (by omega)) ⟨_, e1, by omega, by omega, _, _, _, r1', _, e3, by omega, by omega, _, _, _, r3', ?_⟩)
      have X1 := wdL_row (f := x.m.bt i) (A.2.1.2.1.1 i (by omega))
      have X3 := wdL_row (f := prT fl i (x.m.n / 2 ^ (i + 1))) (D.2.1.1 i (by omega))
      have ee : wdL (prT fl i (x.m.n / 2 ^ (i + 1))) (nw (x.m.n / 2 ^ (i + 1))) = wdL (x.m.bt i) (nw (x.m.n / 2 ^ (i + 1))) := List.map_congr_left fun j _ => by rw [W.worded (by omega)]
      rw [ee] at X3
      have hlen : (wdL (x.m.bt i) (nw (x.m.n / 2 ^ (i + 1)))).length = nw (x.m.n / 2 ^ (i + 1)) := wdL_len _ _
      have hs : nw (x.m.n / 2 ^ (i + 1)) ≤ 2000 := by
        unfold nw
        have := Nat.div_le_self x.m.n (2 ^ (i + 1))
        omega
      rw [← hlen]
      refine ints_ok (by omega) X1 X3 ⟨_, rfl, iF (by simp) ?_⟩
      rw [show IntKind.wrap .i64 ((i : Int) + 1) = ((i + 1 : Nat) : Int) by rw [IntKind.wrap_i64]; omega]
      exact ih (i + 1) (by omega)
  have fin := hJ5 qp x.m.o qc qp' x.m.o qc' h3 fun J6 hJ6 L7 hL7 => words J6 hJ6 L7 hL7 x.m.o 0 (by omega)
  have loop : ∀ (d i : Nat), i + d = x.m.n → L9 [.slice gp x.m.n gc, .slice qp x.m.o qc, .slice (some ⟨b2, 0, none⟩) x.m.n x.m.n, .slice qp' x.m.o qc', .int .i64 (i : Int)] h3 := by
    intro d
    induction d with
    | zero =>
      intro i hi
      exact hL9 _ _ _ _ _ _ _ _ _ _ _ _ _ _ (iF (decide_eq_false (by omega)) fin)
    | succ d ih =>
      intro i hi
      rcases sl_row A.1 with e | ⟨b1, o1, e1, R1⟩
      · omega
      rcases sl_row B with e | ⟨b3, o3, e3, R3⟩
      · omega
      refine hL9 _ _ _ _ _ _ _ _ _ _ _ _ _ _ (iT (decide_eq_true (by omega)) ⟨_, e1, by omega, by omega, row_pageZ (P := x.m.pg) (n := x.m.n) (fun j hj => R1 j hj) (by omega) ⟨_, e3, by omega, by omega, row_pageZ (P := paintLv (paintO fl (x.m.o + 1)) V) (n := x.m.n) (fun j hj => R3 j hj) (by omega) ?_⟩⟩)
      have e := W.painted (q := i) (by omega) id
      rw [e]
      refine iF (by rw [eq_page]; simp) ?_
      rw [show IntKind.wrap .i64 ((i : Int) + 1) = ((i + 1 : Nat) : Int) by rw [IntKind.wrap_i64]; omega]
      exact ih (i + 1) (by omega)
  exact loop x.m.n 0 (by omega)

theorem wordZ_ok (W : WI c x fl V) (H : (wzR c Q x fl V).P h) {q d : Nat} (hq : q < x.m.n) (hd : d = 0 ∨ d = 8) (hK : ∀ h', Upd NoB h h' → K (.int .u64 (x.st.rd c (adr c q + (d : Int)))) h') :
    CallV Tryz.prog w₀ F.croftlaw5_world_word [.pointer (some ⟨Q.wb, 0, none⟩), .int .u64 (adr c q + (d : Int))] h K := by
  refine croftlaw5_world_word.call ?_
  unfold croftlaw5_world_word.vc
  have t := cell_th W.rep.rm (p := adr c q) ⟨q, hq, rfl⟩
  rw [th_iff] at t
  have lo := cell_lo W.rep.rm (p := adr c q) ⟨q, hq, rfl⟩
  have t2 : There c x.st.n (adr c q + (d : Int)) 8 := by
    unfold There at t ⊢
    rcases t with t | t
    · omega
    · right; omega
  exact ⟨_, rfl, _, wz_cell H (i := 3) (by omega), mem_Word_ok (by omega) (bu_sp (wz_bu H)) (fun _ h1 u1 => ⟨_, _, rfl, iF rfl (hK h1 u1)⟩) fun hn => absurd t2 hn⟩

theorem linkedZ_ok (W : WI c x fl V) (H : (wzR c Q x fl V).P h) {k : Nat} (hk : k ≤ x.m.o) (hK : ∀ h', Upd NoB h h' → K (.bool true) h') :
    CallV Tryz.prog w₀ F.croftlaw5_world_linked [.pointer (some ⟨Q.wb, 0, none⟩), .int .i64 (k : Int)] h K := by
  refine croftlaw5_world_linked.call ?_
  unfold croftlaw5_world_linked.vc
  refine freeZ_ok W H (fun hc => absurd hc (by omega)) fun k' ek hk' h1 p cap N1 => ⟨_, _, _, rfl, fun J2 hJ2 L3 hL3 => ?_⟩
  obtain rfl : k = k' := by omega
  have I1 := (Hold.nil h).new N1
  have lst := W.rep.ls k hk
  have sg := lst.sg
  simp only [] at sg
  have f5 := W.flOk.len k hk
  have ll : ((fl k).map (adr c)).length = (fl k).length := by simp
  have el : ∀ i, i < (fl k).length → ∃ q, q < x.m.n ∧ ((fl k).map (adr c)).getD i 0 = adr c q := fun i hi => by
    refine ⟨(fl k)[i], (W.rep.al hk (List.getElem_mem hi)).2.2, ?_⟩
    rw [List.getD_eq_getElem?_getD, List.getElem?_map, List.getElem?_eq_getElem hi]
    rfl
  generalize (fl k).map (adr c) = l at I1 sg ll el ⊢
  rw [ll]
  have P1 := I1.at 0
  rw [ll] at P1
  have cells : ∀ (hx : Heap), Upd NoB h1 hx → ∀ i, i < (fl k).length → ∃ a, p = some a ∧ cellAt hx (a.add (Int.toNat (i : Int) * 1)) = some (.int .u64 (l.getD i 0)) := fun hx ux i hi => by
    obtain ⟨b, e, r⟩ := sl_cell ((slR p (fl k).length cap 1 (uL l)).st P1 ux fun _ _ => id) (i := i) (by omega)
    exact ⟨_, e, by rw [at1]; exact r⟩
  have loop : ∀ (d i : Nat) (hx : Heap), i + d = (fl k).length → Upd NoB h1 hx → L3 [.pointer (some ⟨Q.wb, 0, none⟩), .slice p (fl k).length cap, .int .i64 (i : Int)] hx := by
    intro d
    induction d with
    | zero =>
      intro i hx hi ux
      exact hL3 _ _ _ _ _ _ (iF (decide_eq_false (by omega)) (hJ2 _ (hK _ (N1.u.nx ux fun _ e _ => e))))
    | succ d ih =>
      intro i hx hi ux
      obtain ⟨s1, s2⟩ := seg_at sg (i := i) (by omega)
      obtain ⟨q, hq, eq⟩ := el i (by omega)
      obtain ⟨a, ea, ra⟩ := cells hx ux i (by omega)
      have ew : IntKind.wrap .i64 ((i : Int) + 1) = ((i + 1 : Nat) : Int) := by rw [IntKind.wrap_i64]; omega
      refine hL3 _ _ _ _ _ _ (iT (decide_eq_true (by omega)) fun J4 hJ4 => ?_)
      have after : J4 [.pointer (some ⟨Q.wb, 0, none⟩), .slice p (fl k).length cap, .int .i64 (i : Int), .int .u64 (if i + 1 < l.length then l.getD (i + 1) 0 else 0), .int .u64 0] hx := by
        refine hJ4 _ _ _ _ _ _ _ _ fun J5 hJ5 => ?_
        have last : J5 [.pointer (some ⟨Q.wb, 0, none⟩), .slice p (fl k).length cap, .int .i64 (i : Int), .int .u64 (if i + 1 < l.length then l.getD (i + 1) 0 else 0), .int .u64 (if 0 < i then l.getD (i - 1) 0 else 0)] hx := by
          refine hJ5 _ _ _ _ _ _ _ _ ⟨a, ea, by omega, by omega, _, ra, ?_⟩
          have Hx := (wzR c Q x fl V).st H (N1.u.nx ux fun _ e _ => e) fun _ _ => id
          have step1 := wordZ_ok (w₀ := w₀) (K := fun (v40 : Value) (h40 : Heap) => ∃ r40 : Int, v40 = .int .u64 r40 ∧ (∀ J7 : Bool → Heap → Prop, (∀ (b53 : Bool) (h53 : Heap), ((b53 = true → K (.bool false) h53) ∧ (b53 = false → L3 [.pointer (some ⟨Q.wb, 0, none⟩), .slice p (fl k).length cap, (.int .i64 (IntKind.wrap .i64 ((i : Int) + (1 : Int))))] h53)) → J7 b53 h53) → ((r40 != (if i + 1 < l.length then l.getD (i + 1) 0 else 0)) = false → (∃ a47 : Addr, p = some a47 ∧ 0 ≤ (i : Int) ∧ (i : Int) < ((fl k).length : Nat) ∧ (∃ n48 : Int, cellAt h40 (a47.add (Int.toNat (i : Int) * 1)) = some (.int .u64 n48) ∧ (CallV Tryz.prog w₀ F.croftlaw5_world_word [.pointer (some ⟨Q.wb, 0, none⟩), (.int .u64 (IntKind.wrap .u64 (n48 + (8 : Int))))] h40 fun (v50 : Value) (h50 : Heap) => ∃ r50 : Int, v50 = .int .u64 r50 ∧ J7 (r50 != (if 0 < i then l.getD (i - 1) 0 else 0)) h50)))) ∧ ((r40 != (if i + 1 < l.length then l.getD (i + 1) 0 else 0)) = (!false) → J7 true h40))) W Hx hq (.inl rfl) fun h2 u2 => ⟨_, rfl, fun J7 hJ7 => ?_⟩
          · rw [show adr c q + ((0 : Nat) : Int) = adr c q by omega, ← eq] at step1
            exact step1
          · rw [show adr c q + ((0 : Nat) : Int) = adr c q by omega, ← eq, s1]
            have u12 : Upd NoB h1 h2 := ux.nx u2 fun _ e _ => e
            obtain ⟨a2, ea2, ra2⟩ := cells h2 u12 i (by omega)
            have H2 := (wzR c Q x fl V).st Hx u2 fun _ _ => id
            refine pF (by simp) ⟨a2, ea2, by omega, by omega, _, ra2, ?_⟩
            have lo := cell_lo W.rep.rm (p := adr c q) ⟨q, hq, rfl⟩
            have e8 : IntKind.wrap .u64 (l.getD i 0 + 8) = adr c q + ((8 : Nat) : Int) := by rw [eq, IntKind.wrap_u64]; omega
            rw [e8]
            refine wordZ_ok W H2 hq (.inr rfl) fun h3 u3 => ⟨_, rfl, hJ7 _ _ ?_⟩
            have e8' : x.st.rd c (adr c q + ((8 : Nat) : Int)) = (if 0 < i then l.getD (i - 1) 0 else 0) := by
              rw [show adr c q + ((8 : Nat) : Int) = l.getD i 0 + 8 by rw [eq]; rfl, s2]
            rw [e8']
            refine iF (by simp) ?_
            rw [ew]
            exact ih (i + 1) h3 (by omega) (u12.nx u3 fun _ e _ => e)
        by_cases hi0 : 0 < i
        · obtain ⟨a3, ea3, ra3⟩ := cells hx ux (i - 1) (by omega)
          rw [if_pos hi0] at last
          have ew2 : IntKind.wrap .i64 ((i : Int) - 1) = ((i - 1 : Nat) : Int) := by rw [IntKind.wrap_i64]; omega
          refine iT (decide_eq_true (by omega)) ⟨a3, ea3, by rw [ew2]; omega, by rw [ew2]; omega, l.getD (i - 1) 0, by rw [ew2]; exact ra3, last⟩
        · rw [if_neg hi0] at last
          exact iF (decide_eq_false (by omega)) last
      rw [ew]
      by_cases h2 : i + 1 < l.length
      · rw [if_pos h2] at after
        obtain ⟨a3, ea3, ra3⟩ := cells hx ux (i + 1) (by omega)
        exact iT (decide_eq_true (by omega)) ⟨a3, ea3, by omega, by omega, _, ra3, after⟩
      · rw [if_neg h2] at after
        exact iF (decide_eq_false (by omega)) after
  exact loop (fl k).length 0 h1 (by omega) (Upd.refl _ _)
end
end Go.Proofs.YtnlcmfdmbgnpfaaGreat
