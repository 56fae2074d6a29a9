/- croftlaw6: played. No condition. -/
import Derived.Test.YtippbfnhgooepaaZD4
import Derived.Test.YtippbfnhgooepaaZGcroftlaw6played
set_option linter.unusedSimpArgs false
set_option linter.unusedVariables false
namespace Go.Proofs.Ytippbfnhgooepaa
open Go.V Classical

section
variable {w₀ : World} {h h' : Heap} {K : Value → Heap → Prop} {c : Cfg} {r : Nat} {Q : PL} {x : BU} {Y : RW6} {O : Nat} {fl : Nat → List Nat} {L : List PBk}

theorem rm_perm {b : PBk} (nd : L.Nodup) (hb : b ∈ L) : L.Perm (b :: rmL L b) := by
  unfold rmL
  induction L with
  | nil => cases hb
  | cons a l ih =>
    obtain ⟨h1, h2⟩ := List.nodup_cons.1 nd
    by_cases e : a = b
    · subst e
      rw [List.filter_cons, if_neg (by simp)]
      have : l.filter (· ≠ a) = l := List.filter_eq_self.2 fun z hz => by
        have : z ≠ a := fun e => h1 (by rw [← e]; exact hz)
        simpa using this
      rw [this]
    · rw [List.filter_cons, if_pos (by simpa using e)]
      have hb : b ∈ l := (List.mem_cons.1 hb).resolve_left fun e' => e e'.symm
      exact ((ih h2 hb).cons a).trans (.swap _ _ _)

theorem rm_len {b : PBk} (hb : b ∈ L) : (rmL L b).length < L.length := by
  unfold rmL
  refine Nat.lt_of_le_of_ne (List.length_filter_le _ _) fun e => ?_
  have := (List.length_filter_eq_length_iff.1 e) b hb
  simp at this

abbrev PlayK (c : Cfg) (O : Nat) (o : O6) (Q : PL) (x : BU) (Y : RW6) (fl : Nat → List Nat) (L : List PBk) (h : Heap) (K : Value → Heap → Prop) : Prop :=
  ∀ (x' : BU) (fl' : Nat → List Nat) (L' : List PBk) (Q' : PL) (Y' : RW6) (h' : Heap), Q'.pb = Q.pb → WI c x' fl' L' → x'.m.o = O → (L'.length = L.length → (o.kind = 1 ∨ o.kind = 2 ∨ o.kind = 3) → x' = x ∧ fl' = fl ∧ L' = L) →
    Stp h h' (ptR c O Q x Y fl L) (ptR c O Q' x' Y' fl' L') → K (.tuple #[pv c x'.st.n Y' O L', .bool true]) h'

abbrev o6V (o : O6) : Value := .agg #[.int .i64 o.kind, .int .i64 o.order, .int .i64 o.which, .int .i64 o.more, .bool o.deny, .int .u64 o.at', .slice o.dp o.dn o.dc]

set_option maxHeartbeats 8000000 in
theorem played6_ok {o : O6} (W : WI c x fl L) (hOo : x.m.o = O) (ha : U64 o.at') (hdc : o.dn ≤ o.dc ∧ o.dc < 9223372036854775808) (hrow : Row h o.dp o.dn (fun i => .int .u8 (o.g i))) (hby : ∀ j, j < o.dn → 0 ≤ o.g j ∧ o.g j < 256) (hoff : o.dn = 0 ∨ Off Q.B.Z o.dp)
    (H : (ptR c O Q x Y fl L).P h) (hK : PlayK c O o Q x Y fl L h K) :
    CallV Try.prog w₀ F.croftlaw6_played [.pointer (some ⟨Q.pb, 0, none⟩), pv c x.st.n Y O L, o6V o] h K := by
  refine croftlaw6_played.call ?_
  unfold croftlaw6_played.vc
  have hO := W.ok.m.o8
  have hco := W.ok.o.symm
  have hb := bu_bounds W.g W.ok.m
  have fo := W.flOk
  have eN := W.e
  rw [hOo] at hO hco fo eN
  have p8 := pow8 hO
  have n1 := W.ok.m.n1
  have hr : x.st.n * 2 ^ O ≤ 2000 := by omega
  have hl : L.length ≤ 1024 := Nat.le_trans (L_len W) n1
  have hLb : ∀ b ∈ L, b.1 < 1024 ∧ b.2 ≤ O := fun b hb => by
    have al := W.al hb
    rw [hOo] at al
    have := Nat.two_pow_pos b.2
    omega
  have N5 := box6 h (.int .u64 c.base) (.int .i64 c.limit) (.int .i64 c.order) (.int .i64 (x.st.n : Int)) (.slice Y.fp (O + 1) Y.fc) (.slice Y.vp L.length Y.vc) T.T_croftref6_Pool
  generalize Array.push h (.cells #[.int .u64 c.base, .int .i64 c.limit, .int .i64 c.order, .int .i64 (x.st.n : Int), .slice Y.fp (O + 1) Y.fc, .slice Y.vp L.length Y.vc] T.T_croftref6_Pool) = h5 at N5 ⊢
  have N6 := box7 h5 (.int .i64 o.kind) (.int .i64 o.order) (.int .i64 o.which) (.int .i64 o.more) (.bool o.deny) (.int .u64 o.at') (.slice o.dp o.dn o.dc) T.T_croftlaw6_Op
  generalize Array.push h5 (.cells #[.int .i64 o.kind, .int .i64 o.order, .int .i64 o.which, .int .i64 o.more, .bool o.deny, .int .u64 o.at', .slice o.dp o.dn o.dc] T.T_croftlaw6_Op) = h6 at N6 ⊢
  have N7 := box6 h6 (.int .u64 0) (.int .i64 0) (.int .i64 0) (.int .i64 0) (.slice none 0 0) (.slice none 0 0) T.T_croftref6_Pool
  generalize Array.push h6 (.cells #[.int .u64 0, .int .i64 0, .int .i64 0, .int .i64 0, .slice none 0 0, .slice none 0 0] T.T_croftref6_Pool) = h7 at N7 ⊢
  obtain ⟨b0, eb0⟩ : ∃ b0, b0 = h.size := ⟨_, rfl⟩
  obtain ⟨b1, eb1⟩ : ∃ b1, b1 = h5.size := ⟨_, rfl⟩
  obtain ⟨b2, eb2⟩ : ∃ b2, b2 = h6.size := ⟨_, rfl⟩
  rw [← eb0] at N5 ⊢
  rw [← eb1] at N6 ⊢
  rw [← eb2] at N7 ⊢
  have u7 : Upd NoB h h7 := (N5.u.nx N6.u fun _ e _ => e).nx N7.u fun _ e _ => e
  have I7 : Go.V.Own h h7 (ptR c O Q x Y fl L) [blkR b2 6 zF, blkR b1 7 (f7 (.int .i64 o.kind) (.int .i64 o.order) (.int .i64 o.which) (.int .i64 o.more) (.bool o.deny) (.int .u64 o.at') (.slice o.dp o.dn o.dc)), blkR b0 6 (pvF c x.st.n Y O L), plR c Q x, rfR Y O fl L] := (((Go.V.Own.of H).split.new N5).new N6).new N7
  clear N5 N6 N7 eb0 eb1 eb2
  have oc : ∀ {hy : Heap} {rs : List Res} (I : Go.V.Own h hy (ptR c O Q x Y fl L) rs) (i j : Nat) (hj : j < 7) (hi : rs[i]? = some (blkR b1 7 (f7 (.int .i64 o.kind) (.int .i64 o.order) (.int .i64 o.which) (.int .i64 o.more) (.bool o.deny) (.int .u64 o.at') (.slice o.dp o.dn o.dc))) := by rfl), cellAt hy ((⟨b1, 0, none⟩ : Addr).add j) = some ((f7 (.int .i64 o.kind) (.int .i64 o.order) (.int .i64 o.which) (.int .i64 o.more) (.bool o.deny) (.int .u64 o.at') (.slice o.dp o.dn o.dc)) j) := fun {hy} {rs} I i j hj hi => f7_cell (Go.V.Own.at I i hi) hj
  have oc0 : ∀ {hy : Heap} {rs : List Res} (I : Go.V.Own h hy (ptR c O Q x Y fl L) rs) (i : Nat) (hi : rs[i]? = some (blkR b1 7 (f7 (.int .i64 o.kind) (.int .i64 o.order) (.int .i64 o.which) (.int .i64 o.more) (.bool o.deny) (.int .u64 o.at') (.slice o.dp o.dn o.dc))) := by rfl), cellAt hy ⟨b1, 0, none⟩ = some (.int .i64 o.kind) := fun {hy} {rs} I i hi => by
    have := f7_cell (Go.V.Own.at I i hi) (i := 0) (by omega)
    rw [add_mk] at this
    exact this
  have done : ∀ (x' : BU) (fl' : Nat → List Nat) (L' : List PBk) (Q' : PL) (Y' : RW6) (hx : Heap) (g : Nat → Value) (b : Bool), b = true → Q'.pb = Q.pb → WI c x' fl' L' → x'.m.o = O → (L'.length = L.length → (o.kind = 1 ∨ o.kind = 2 ∨ o.kind = 3) → x' = x ∧ fl' = fl ∧ L' = L) →
      Go.V.Own h hx (ptR c O Q x Y fl L) [blkR b2 6 g, plR c Q' x', rfR Y' O fl' L'] →
      (WrN hx (⟨b2, 0, none⟩ : Addr) 6 ∧ (∃ z0_0 : Int, cellAt (setCs hx (⟨b2, 0, none⟩ : Addr) 0 [.int .u64 c.base, .int .i64 c.limit, .int .i64 c.order, .int .i64 (x'.st.n : Int), .slice Y'.fp (O + 1) Y'.fc, .slice Y'.vp L'.length Y'.vc]) (⟨b2, 0, none⟩ : Addr) = some (.int .u64 z0_0) ∧
        ∃ z0_1 : Int, cellAt (setCs hx (⟨b2, 0, none⟩ : Addr) 0 [.int .u64 c.base, .int .i64 c.limit, .int .i64 c.order, .int .i64 (x'.st.n : Int), .slice Y'.fp (O + 1) Y'.fc, .slice Y'.vp L'.length Y'.vc]) ((⟨b2, 0, none⟩ : Addr).add 1) = some (.int .i64 z0_1) ∧
        ∃ z0_2 : Int, cellAt (setCs hx (⟨b2, 0, none⟩ : Addr) 0 [.int .u64 c.base, .int .i64 c.limit, .int .i64 c.order, .int .i64 (x'.st.n : Int), .slice Y'.fp (O + 1) Y'.fc, .slice Y'.vp L'.length Y'.vc]) ((⟨b2, 0, none⟩ : Addr).add 2) = some (.int .i64 z0_2) ∧
        ∃ z0_3 : Int, cellAt (setCs hx (⟨b2, 0, none⟩ : Addr) 0 [.int .u64 c.base, .int .i64 c.limit, .int .i64 c.order, .int .i64 (x'.st.n : Int), .slice Y'.fp (O + 1) Y'.fc, .slice Y'.vp L'.length Y'.vc]) ((⟨b2, 0, none⟩ : Addr).add 3) = some (.int .i64 z0_3) ∧
        ∃ z0_4p : Option Addr, ∃ z0_4n : Nat, ∃ z0_4c : Nat, cellAt (setCs hx (⟨b2, 0, none⟩ : Addr) 0 [.int .u64 c.base, .int .i64 c.limit, .int .i64 c.order, .int .i64 (x'.st.n : Int), .slice Y'.fp (O + 1) Y'.fc, .slice Y'.vp L'.length Y'.vc]) ((⟨b2, 0, none⟩ : Addr).add 4) = some (.slice z0_4p z0_4n z0_4c) ∧
        ∃ z0_5p : Option Addr, ∃ z0_5n : Nat, ∃ z0_5c : Nat, cellAt (setCs hx (⟨b2, 0, none⟩ : Addr) 0 [.int .u64 c.base, .int .i64 c.limit, .int .i64 c.order, .int .i64 (x'.st.n : Int), .slice Y'.fp (O + 1) Y'.fc, .slice Y'.vp L'.length Y'.vc]) ((⟨b2, 0, none⟩ : Addr).add 5) = some (.slice z0_5p z0_5n z0_5c) ∧
        K (.tuple #[.agg #[.int .u64 z0_0, .int .i64 z0_1, .int .i64 z0_2, .int .i64 z0_3, .slice z0_4p z0_4n z0_4c, .slice z0_5p z0_5n z0_5c], .bool b]) (setCs hx (⟨b2, 0, none⟩ : Addr) 0 [.int .u64 c.base, .int .i64 c.limit, .int .i64 c.order, .int .i64 (x'.st.n : Int), .slice Y'.fp (O + 1) Y'.fc, .slice Y'.vp L'.length Y'.vc]))) := by
    intro x' fl' L' Q' Y' hx g b eb hq W' o' hcl I
    subst eb
    obtain ⟨wf, Sf⟩ := assign6 (I.at 0) (.int .u64 c.base) (.int .i64 c.limit) (.int .i64 c.order) (.int .i64 (x'.st.n : Int)) (.slice Y'.fp (O + 1) Y'.fc) (.slice Y'.vp L'.length Y'.vc)
    have If := I.step 0 Sf
    obtain ⟨k0, k1, k2, k3, k4, k5⟩ := f6_cells (If.at 0)
    exact ⟨wf, _, k0, _, k1, _, k2, _, k3, _, _, _, k4, _, _, _, k5, hK x' fl' L' Q' Y' _ hq W' o' hcl (If.two 1 2)⟩
  obtain ⟨k0, k1, k2, k3, k4, k5⟩ := f6_cells (I7.at 2)
  refine ⟨_, oc0 I7 1, ?_⟩
  by_cases hk1 : o.kind = 1
  · refine iT (by rw [hk1]; rfl) ⟨_, k0, _, k1, _, k2, _, k3, _, _, _, k4, _, _, _, k5, _, oc I7 1 1 (by omega), _, oc I7 1 4 (by omega), ?_⟩
    refine Need6_ok (o := o.order) (deny := o.deny) hO hco fo (by omega) hr (I7.at 4) (fun ho h8 S8 => ⟨_, _, _, _, _, _, _, _, _, _, _, _, rfl, ?_⟩) (fun on eo hon j p l j1 j2 hF hi h8 Y' S8 => ⟨_, _, _, _, _, _, _, _, _, _, _, _, rfl, ?_⟩)
      (fun on eo hon hF hd h8 S8 => ⟨_, _, _, _, _, _, _, _, _, _, _, _, rfl, ?_⟩) fun on eo hon hF hd hlt h8 Y' S8 => ⟨_, _, _, _, _, _, _, _, _, _, _, _, rfl, ?_⟩
    · have I8 := I7.step 4 S8
      have Nb3 := box6 h8 (.int .u64 0) (.int .i64 0) (.int .i64 0) (.int .i64 0) (.slice none 0 0) (.slice none 0 0) T.T_croftref6_Pool
      generalize Array.push h8 (.cells #[.int .u64 0, .int .i64 0, .int .i64 0, .int .i64 0, .slice none 0 0, .slice none 0 0] T.T_croftref6_Pool) = ha0 at Nb3 ⊢
      obtain ⟨b3, eb3⟩ : ∃ b3, b3 = Array.size h8 := ⟨_, rfl⟩
      rw [← eb3] at Nb3 ⊢
      have Ia0 := I8.new Nb3
      obtain ⟨wb3, Sb3⟩ := assign6 (Ia0.at 0) (.int .u64 c.base) (.int .i64 c.limit) (.int .i64 c.order) (.int .i64 (x.st.n : Int)) (.slice Y.fp (O + 1) Y.fc) (.slice Y.vp L.length Y.vc)
      have Ia := Ia0.step 0 Sb3
      refine ⟨wb3, ?_⟩
      generalize setCs ha0 ⟨b3, 0, none⟩ 0 [.int .u64 c.base, .int .i64 c.limit, .int .i64 c.order, .int .i64 (x.st.n : Int), .slice Y.fp (O + 1) Y.fc, .slice Y.vp L.length Y.vc] = ha at Ia ⊢
      obtain ⟨n0, n1, n2, n3, n4, n5⟩ := f6_cells (Ia.at 0)
      have P : (plR c Q x).P ha := Ia.at 4
      refine ⟨_, oc Ia 2 1 (by omega), _, oc Ia 2 4 (by omega), ?_⟩
      refine needP W P (fun _ h9 S9 => ⟨_, _, _, rfl, ?_⟩) (fun on eo hon => absurd (show o.order = (on : Int) from eo) (by omega)) (fun on eo hon => absurd (show o.order = (on : Int) from eo) (by omega)) fun on eo hon => absurd (show o.order = (on : Int) from eo) (by omega)
      have I9 := Ia.step 4 S9
      obtain ⟨m0, m1, m2, m3, m4, m5⟩ := f6_cells (I9.at 0)
      exact iT (by decide) ⟨_, m0, _, m1, _, m2, _, m3, _, _, _, m4, _, _, _, m5, fun J8 hJ8 => qT (by decide) (hJ8 _ _ fun J9 hJ9 => qT rfl (hJ9 _ _ (done x fl L Q Y h9 _ _ rfl rfl W hOo (fun _ _ => ⟨rfl, rfl, rfl⟩) (I9.sub (.cons _ (.cons_cons _ (.cons _ (.cons _ (List.Sublist.refl _)))))))))⟩
    · have I8 := I7.step 4 S8
      have Nb3 := box6 h8 (.int .u64 0) (.int .i64 0) (.int .i64 0) (.int .i64 0) (.slice none 0 0) (.slice none 0 0) T.T_croftref6_Pool
      generalize Array.push h8 (.cells #[.int .u64 0, .int .i64 0, .int .i64 0, .int .i64 0, .slice none 0 0, .slice none 0 0] T.T_croftref6_Pool) = ha0 at Nb3 ⊢
      obtain ⟨b3, eb3⟩ : ∃ b3, b3 = Array.size h8 := ⟨_, rfl⟩
      rw [← eb3] at Nb3 ⊢
      have Ia0 := I8.new Nb3
      obtain ⟨wb3, Sb3⟩ := assign6 (Ia0.at 0) (.int .u64 c.base) (.int .i64 c.limit) (.int .i64 c.order) (.int .i64 (x.st.n : Int)) (.slice Y'.fp (O + 1) Y'.fc) (.slice Y'.vp (L ++ [(p, on)]).length Y'.vc)
      have Ia := Ia0.step 0 Sb3
      refine ⟨wb3, ?_⟩
      generalize setCs ha0 ⟨b3, 0, none⟩ 0 [.int .u64 c.base, .int .i64 c.limit, .int .i64 c.order, .int .i64 (x.st.n : Int), .slice Y'.fp (O + 1) Y'.fc, .slice Y'.vp (L ++ [(p, on)]).length Y'.vc] = ha at Ia ⊢
      obtain ⟨n0, n1, n2, n3, n4, n5⟩ := f6_cells (Ia.at 0)
      have P : (plR c Q x).P ha := Ia.at 4
      refine ⟨_, oc Ia 2 1 (by omega), _, oc Ia 2 4 (by omega), ?_⟩
      refine needP W P (fun hb => absurd (show o.order < 0 ∨ o.order > x.m.o from hb) (by omega)) (fun on' eo' hon' j' p' l' j1' j2' hF' hi' x' h9 W' M' S9 => ⟨_, _, _, rfl, ?_⟩) (fun on' eo' hon' hF' => ?_) fun on' eo' hon' hF' => ?_
      · have eo : o.order = on := eo
        have eo' : o.order = on' := eo'
        have e1 : on' = on := by omega
        subst e1
        have e2 : j' = j := by
          rcases Nat.lt_trichotomy j' j with hlt | he | hlt
          · rw [hi j' j1' hlt] at hF'; cases hF'
          · exact he
          · rw [hi' j j1 hlt] at hF; cases hF
        subst e2
        rw [hF] at hF'
        cases hF'
        have I9 := Ia.step 4 S9
        obtain ⟨m0, m1, m2, m3, m4, m5⟩ := f6_cells (I9.at 0)
        obtain ⟨q0, q1, q2, q3, q4, q5⟩ := f6_cells (I9.at 3)
        have hp2 := fo.bd j' j2 p (by rw [hF]; simp)
        have W2 := W'.perm (List.perm_append_comm (l₁ := [(p, on')]) (l₂ := L))
        refine iF (decide_eq_false (by omega)) fun J11 hJ11 => ⟨_, m0, _, m1, _, m2, _, m3, _, _, _, m4, _, _, _, m5, fun J12 hJ12 => qT rfl ⟨_, q0, _, q1, _, q2, Address6_ok ⟨by omega, by omega⟩ (by omega) fun hd ud => ⟨_, rfl, ?_⟩⟩⟩
        have Id := I9.quiet ud
        obtain ⟨m0, m1, m2, m3, m4, m5⟩ := f6_cells (Id.at 0)
        refine ⟨m0, m1, m2, m3, m4, m5, hJ12 _ _ (qT (beq_self_eq_true _) ?_)⟩
        obtain ⟨d1, d2⟩ := done x' _ (L ++ [(p, on')]) Q Y' hd _ _ rfl rfl W2 (by rw [M'.o, hOo]) (fun he => by simp at he) (Id.sub (.cons _ (.cons_cons _ (.cons _ (.cons _ (List.Sublist.refl _))))))
        rw [M'.k.1] at d2
        exact ⟨d1, hJ11 _ _ _ d2⟩
      · have eo : o.order = on := eo
        have eo' : o.order = on' := eo'
        have := hF' j (by omega) (by omega)
        rw [hF] at this; cases this
      · have eo : o.order = on := eo
        have eo' : o.order = on' := eo'
        have := hF' j (by omega) (by omega)
        rw [hF] at this; cases this
    · have I8 := I7.step 4 S8
      have Nb3 := box6 h8 (.int .u64 0) (.int .i64 0) (.int .i64 0) (.int .i64 0) (.slice none 0 0) (.slice none 0 0) T.T_croftref6_Pool
      generalize Array.push h8 (.cells #[.int .u64 0, .int .i64 0, .int .i64 0, .int .i64 0, .slice none 0 0, .slice none 0 0] T.T_croftref6_Pool) = ha0 at Nb3 ⊢
      obtain ⟨b3, eb3⟩ : ∃ b3, b3 = Array.size h8 := ⟨_, rfl⟩
      rw [← eb3] at Nb3 ⊢
      have Ia0 := I8.new Nb3
      obtain ⟨wb3, Sb3⟩ := assign6 (Ia0.at 0) (.int .u64 c.base) (.int .i64 c.limit) (.int .i64 c.order) (.int .i64 (x.st.n : Int)) (.slice Y.fp (O + 1) Y.fc) (.slice Y.vp L.length Y.vc)
      have Ia := Ia0.step 0 Sb3
      refine ⟨wb3, ?_⟩
      generalize setCs ha0 ⟨b3, 0, none⟩ 0 [.int .u64 c.base, .int .i64 c.limit, .int .i64 c.order, .int .i64 (x.st.n : Int), .slice Y.fp (O + 1) Y.fc, .slice Y.vp L.length Y.vc] = ha at Ia ⊢
      obtain ⟨n0, n1, n2, n3, n4, n5⟩ := f6_cells (Ia.at 0)
      have P : (plR c Q x).P ha := Ia.at 4
      refine ⟨_, oc Ia 2 1 (by omega), _, oc Ia 2 4 (by omega), ?_⟩
      refine needP W P (fun hb => absurd (show o.order < 0 ∨ o.order > x.m.o from hb) (by omega)) (fun on' eo' hon' j' p' l' j1' j2' hF' => ?_) (fun on' eo' hon' hF' _ h9 S9 => ⟨_, _, _, rfl, ?_⟩) fun on' eo' hon' hF' hdf hlt => ?_
      · have eo : o.order = on := eo
        have eo' : o.order = on' := eo'
        have := hF j' (by omega) (by omega)
        rw [hF'] at this; cases this
      · have I9 := Ia.step 4 S9
        obtain ⟨m0, m1, m2, m3, m4, m5⟩ := f6_cells (I9.at 0)
        exact iT (by decide) ⟨_, m0, _, m1, _, m2, _, m3, _, _, _, m4, _, _, _, m5, fun J8 hJ8 => qT (by decide) (hJ8 _ _ fun J9 hJ9 => qT rfl (hJ9 _ _ (done x fl L Q Y h9 _ _ rfl rfl W hOo (fun _ _ => ⟨rfl, rfl, rfl⟩) (I9.sub (.cons _ (.cons_cons _ (.cons _ (.cons _ (List.Sublist.refl _)))))))))⟩
      · rcases hd with hd | hd
        · rw [show o.deny = false from hdf] at hd; cases hd
        · omega
    · have I8 := I7.step 4 S8
      have Nb3 := box6 h8 (.int .u64 0) (.int .i64 0) (.int .i64 0) (.int .i64 0) (.slice none 0 0) (.slice none 0 0) T.T_croftref6_Pool
      generalize Array.push h8 (.cells #[.int .u64 0, .int .i64 0, .int .i64 0, .int .i64 0, .slice none 0 0, .slice none 0 0] T.T_croftref6_Pool) = ha0 at Nb3 ⊢
      obtain ⟨b3, eb3⟩ : ∃ b3, b3 = Array.size h8 := ⟨_, rfl⟩
      rw [← eb3] at Nb3 ⊢
      have Ia0 := I8.new Nb3
      obtain ⟨wb3, Sb3⟩ := assign6 (Ia0.at 0) (.int .u64 c.base) (.int .i64 c.limit) (.int .i64 c.order) (.int .i64 ((x.st.n + 1 : Nat) : Int)) (.slice Y'.fp (O + 1) Y'.fc) (.slice Y'.vp (L ++ [(x.st.n * 2 ^ O, on)]).length Y'.vc)
      have Ia := Ia0.step 0 Sb3
      refine ⟨wb3, ?_⟩
      generalize setCs ha0 ⟨b3, 0, none⟩ 0 [.int .u64 c.base, .int .i64 c.limit, .int .i64 c.order, .int .i64 ((x.st.n + 1 : Nat) : Int), .slice Y'.fp (O + 1) Y'.fc, .slice Y'.vp (L ++ [(x.st.n * 2 ^ O, on)]).length Y'.vc] = ha at Ia ⊢
      obtain ⟨n0, n1, n2, n3, n4, n5⟩ := f6_cells (Ia.at 0)
      have P : (plR c Q x).P ha := Ia.at 4
      refine ⟨_, oc Ia 2 1 (by omega), _, oc Ia 2 4 (by omega), ?_⟩
      refine needP W P (fun hb => absurd (show o.order < 0 ∨ o.order > x.m.o from hb) (by omega)) (fun on' eo' hon' j' p' l' j1' j2' hF' => ?_) (fun on' eo' hon' hF' hor => ?_) fun on' eo' hon' hF' _ _ x' h9 Q' eq' eB' W' o' n' s' kp S9 => ⟨_, _, _, rfl, ?_⟩
      · have eo : o.order = on := eo
        have eo' : o.order = on' := eo'
        have := hF j' (by omega) (by omega)
        rw [hF'] at this; cases this
      · rcases hor with h1 | h1
        · rw [show o.deny = true from h1] at hd; cases hd
        · omega
      · have eo : o.order = on := eo
        have eo' : o.order = on' := eo'
        have e1 : on' = on := by omega
        subst e1
        have I9 := Ia.step 4 S9
        obtain ⟨m0, m1, m2, m3, m4, m5⟩ := f6_cells (I9.at 0)
        obtain ⟨q0, q1, q2, q3, q4, q5⟩ := f6_cells (I9.at 3)
        have em : x.st.n * 2 ^ O = x.m.n := eN.symm
        rw [hOo, ← em] at W'
        rw [← em]
        have W2 := W'.perm (List.perm_append_comm (l₁ := [(x.st.n * 2 ^ O, on')]) (l₂ := L))
        refine iF (decide_eq_false (by omega)) fun J11 hJ11 => ⟨_, m0, _, m1, _, m2, _, m3, _, _, _, m4, _, _, _, m5, fun J12 hJ12 => qT rfl ⟨_, q0, _, q1, _, q2, Address6_ok ⟨by omega, by omega⟩ (by omega) fun hd ud => ⟨_, rfl, ?_⟩⟩⟩
        have Id := I9.quiet ud
        obtain ⟨m0, m1, m2, m3, m4, m5⟩ := f6_cells (Id.at 0)
        refine ⟨m0, m1, m2, m3, m4, m5, hJ12 _ _ (qT (beq_self_eq_true _) ?_)⟩
        obtain ⟨d1, d2⟩ := done x' _ (L ++ [(x.st.n * 2 ^ O, on')]) Q' Y' hd _ _ rfl eq' W2 (by rw [o', hOo]) (fun he => by simp at he) (Id.sub (.cons _ (.cons_cons _ (.cons _ (.cons _ (List.Sublist.refl _))))))
        rw [s'] at d2
        exact ⟨d1, hJ11 _ _ _ d2⟩
  refine iF (beq_false_of_ne hk1) ⟨_, oc0 I7 1, fun J17 hJ17 => ?_⟩
  have nothing : o.kind ≠ 3 → o.kind ≠ 4 → (o.kind ≠ 5 ∨ L.length = 0) → J17 false h7 := fun a3 a4 a5 => by
    refine hJ17 _ _ (iF rfl ⟨_, oc0 I7 1, iF (beq_false_of_ne a3) ⟨_, oc0 I7 1, iF (beq_false_of_ne a4) ⟨_, oc0 I7 1, fun J41 hJ41 => ?_⟩⟩⟩)
    have no : J41 false h7 := hJ41 _ _ (iF rfl ⟨_, k0, _, k1, _, k2, _, k3, _, _, _, k4, _, _, _, k5, done x fl L Q Y h7 _ _ rfl rfl W hOo (fun _ _ => ⟨rfl, rfl, rfl⟩) (I7.sub (.cons_cons _ (.cons _ (.cons _ (List.Sublist.refl _)))))⟩)
    by_cases k5' : o.kind = 5
    · refine qT (by rw [k5']; rfl) ⟨_, _, _, k5, ?_⟩
      rw [decide_eq_false (by rcases a5 with h1 | h1; exact absurd k5' h1; omega)]
      exact no
    · exact qF' (beq_false_of_ne k5') no
  by_cases hk2 : o.kind = 2
  · refine qT (by rw [hk2]; rfl) ⟨_, _, _, k5, ?_⟩
    by_cases hl0 : L.length = 0
    · rw [decide_eq_false (by omega)]
      exact nothing (by omega) (by omega) (.inl (by omega))
    rw [decide_eq_true (by omega)]
    refine hJ17 _ _ (iT rfl ⟨_, k0, _, k1, _, k2, _, k3, _, _, _, k4, _, _, _, k5, _, oc I7 1 2 (by omega), ?_⟩)
    refine which6_ok (by omega) (by omega) (I7.at 4 (R := rfR Y O fl L)).2.1 fun b hbL h8 u8 => ⟨_, _, rfl, ?_⟩
    have I8 := I7.quiet u8
    have N9 := box2 h8 (.int .i64 0) (.int .i64 0) T.T_croftref6_Block
    generalize Array.push h8 (.cells #[.int .i64 0, .int .i64 0] T.T_croftref6_Block) = h9 at N9 ⊢
    obtain ⟨b3, eb3⟩ : ∃ b3, b3 = Array.size h8 := ⟨_, rfl⟩
    rw [← eb3] at N9 ⊢
    have I9 := I8.new N9
    obtain ⟨wa, Sa⟩ := assign2 (I9.at 0) (.int .i64 (b.1 : Int)) (.int .i64 (b.2 : Int))
    have Ia := I9.step 0 Sa
    refine ⟨wa, ?_⟩
    generalize setCs h9 ⟨b3, 0, none⟩ 0 [.int .i64 (b.1 : Int), .int .i64 (b.2 : Int)] = ha at Ia ⊢
    obtain ⟨m0, m1, m2, m3, m4, m5⟩ := f6_cells (Ia.at 3)
    obtain ⟨q0, q1⟩ := f2_cells (Ia.at 0)
    obtain ⟨hb1, hb2⟩ := hLb b hbL
    refine ⟨_, m0, _, m1, _, m2, _, q0, Address6_ok ⟨by omega, by omega⟩ (by omega) fun hc uc => ⟨_, rfl, ?_⟩⟩
    have Ic := Ia.quiet uc
    obtain ⟨m0, m1, m2, m3, m4, m5⟩ := f6_cells (Ic.at 3)
    obtain ⟨q0, q1⟩ := f2_cells (Ic.at 0)
    refine ⟨_, m0, _, m1, _, m2, _, m3, _, _, _, m4, _, _, _, m5, _, q0, _, q1, _, oc Ic 2 3 (by omega), ?_⟩
    obtain ⟨z, hz⟩ : ∃ z, z = IntKind.wrap .i64 ((b.2 : Int) + o.more) := ⟨_, rfl⟩
    rw [← hz]
    refine Give6_ok (p := (b.1 : Int)) (o := z) hO hco fo.len (fun b hb => ⟨by have := hLb b hb; omega, (hLb b hb).2⟩) (by omega) (Ic.at 5) (fun hno hd Sd => ⟨_, _, _, _, _, _, _, _, _, _, _, rfl, ?_⟩) fun q k eq ek hqk hd Y' Sd => ⟨_, _, _, _, _, _, _, _, _, _, _, rfl, ?_⟩
    · have Id := Ic.step 5 Sd
      have Nb4 := box6 hd (.int .u64 0) (.int .i64 0) (.int .i64 0) (.int .i64 0) (.slice none 0 0) (.slice none 0 0) T.T_croftref6_Pool
      generalize Array.push hd (.cells #[.int .u64 0, .int .i64 0, .int .i64 0, .int .i64 0, .slice none 0 0, .slice none 0 0] T.T_croftref6_Pool) = he0 at Nb4 ⊢
      obtain ⟨b4, eb4⟩ : ∃ b4, b4 = Array.size hd := ⟨_, rfl⟩
      rw [← eb4] at Nb4 ⊢
      have Ie0 := Id.new Nb4
      obtain ⟨wb4, Sb4⟩ := assign6 (Ie0.at 0) (.int .u64 c.base) (.int .i64 c.limit) (.int .i64 c.order) (.int .i64 (x.st.n : Int)) (.slice Y.fp (O + 1) Y.fc) (.slice Y.vp L.length Y.vc)
      have Ie := Ie0.step 0 Sb4
      refine ⟨wb4, ?_⟩
      generalize setCs he0 ⟨b4, 0, none⟩ 0 [.int .u64 c.base, .int .i64 c.limit, .int .i64 c.order, .int .i64 (x.st.n : Int), .slice Y.fp (O + 1) Y.fc, .slice Y.vp L.length Y.vc] = he at Ie ⊢
      obtain ⟨n0, n1, n2, n3, n4, n5⟩ := f6_cells (Ie.at 0)
      obtain ⟨q0, q1⟩ := f2_cells (Ie.at 1)
      refine ⟨_, n0, _, n1, _, n2, _, n3, _, _, _, n4, _, _, _, n5, _, q1, _, oc Ie 3 3 (by omega), ?_⟩
      rw [← hz]
      refine givePN (Q := Q) W (Ie.at 5) (adr_u64 W.g W.ok.m (by omega)) (fun b' hb' he => hno b' hb' ⟨?_, he.2.symm⟩) fun hf Sf => ⟨_, rfl, ?_⟩
      · have := adr_inj (c := c) (p := b.1) (q := b'.1) he.1
        omega
      have If := Ie.step 5 Sf
      obtain ⟨n0, n1, n2, n3, n4, n5⟩ := f6_cells (If.at 0)
      exact ⟨n0, n1, n2, n3, n4, n5, done x fl L Q Y hf _ _ rfl rfl W hOo (fun _ _ => ⟨rfl, rfl, rfl⟩) (If.sub (.cons _ (.cons _ (.cons_cons _ (.cons _ (.cons _ (List.Sublist.refl _)))))))⟩
    · have Id := Ic.step 5 Sd
      have Nb4 := box6 hd (.int .u64 0) (.int .i64 0) (.int .i64 0) (.int .i64 0) (.slice none 0 0) (.slice none 0 0) T.T_croftref6_Pool
      generalize Array.push hd (.cells #[.int .u64 0, .int .i64 0, .int .i64 0, .int .i64 0, .slice none 0 0, .slice none 0 0] T.T_croftref6_Pool) = he0 at Nb4 ⊢
      obtain ⟨b4, eb4⟩ : ∃ b4, b4 = Array.size hd := ⟨_, rfl⟩
      rw [← eb4] at Nb4 ⊢
      have Ie0 := Id.new Nb4
      obtain ⟨wb4, Sb4⟩ := assign6 (Ie0.at 0) (.int .u64 c.base) (.int .i64 c.limit) (.int .i64 c.order) (.int .i64 (x.st.n : Int)) (.slice Y'.fp (O + 1) Y'.fc) (.slice Y'.vp (rmL L (q, k)).length Y'.vc)
      have Ie := Ie0.step 0 Sb4
      refine ⟨wb4, ?_⟩
      generalize setCs he0 ⟨b4, 0, none⟩ 0 [.int .u64 c.base, .int .i64 c.limit, .int .i64 c.order, .int .i64 (x.st.n : Int), .slice Y'.fp (O + 1) Y'.fc, .slice Y'.vp (rmL L (q, k)).length Y'.vc] = he at Ie ⊢
      obtain ⟨n0, n1, n2, n3, n4, n5⟩ := f6_cells (Ie.at 0)
      obtain ⟨q0, q1⟩ := f2_cells (Ie.at 1)
      refine ⟨_, n0, _, n1, _, n2, _, n3, _, _, _, n4, _, _, _, n5, _, q1, _, oc Ie 3 3 (by omega), ?_⟩
      rw [← hz, ek]
      have ebq : b.1 = q := by omega
      rw [ebq]
      refine giveP (Q := Q) (p := q) (k := k) W (Ie.at 5) (rm_perm W.nd hqk) fun x' hf W' M Sf => ⟨_, rfl, ?_⟩
      have If := Ie.step 5 Sf
      obtain ⟨n0, n1, n2, n3, n4, n5⟩ := f6_cells (If.at 0)
      rw [hOo] at W'
      have hd2 := done x' _ (rmL L (q, k)) Q Y' hf _ _ rfl rfl W' (by rw [M.o, hOo]) (fun he => absurd he (Nat.ne_of_lt (rm_len hqk))) (If.sub (.cons _ (.cons _ (.cons_cons _ (.cons _ (.cons _ (List.Sublist.refl _)))))))
      rw [M.k.1] at hd2
      exact ⟨n0, n1, n2, n3, n4, n5, hd2⟩
  refine qF' (beq_false_of_ne hk2) ?_
  by_cases hk3 : o.kind = 3
  · refine hJ17 _ _ (iF rfl ⟨_, oc0 I7 1, iT (by rw [hk3]; rfl) fun J27 hJ27 => ?_⟩)
    have m27 : ∀ pg : Int, (∀ b ∈ L, ((b.1 : Int) = pg ↔ o.at' = adr c b.1)) → J27 [.pointer (some ⟨Q.pb, 0, none⟩), .pointer (some ⟨b0, 0, none⟩), .pointer (some ⟨b1, 0, none⟩), .pointer (some ⟨b2, 0, none⟩), .int .i64 pg] h7 := by
      intro pg hpg
      refine hJ27 _ _ _ _ _ _ ⟨_, k0, _, k1, _, k2, _, k3, _, _, _, k4, _, _, _, k5, _, oc I7 1 1 (by omega), ?_⟩
      refine Give6_ok (p := pg) (o := o.order) hO hco fo.len (fun b hb => ⟨by have := hLb b hb; omega, (hLb b hb).2⟩) (by omega) (I7.at 4) (fun hno hd Sd => ⟨_, _, _, _, _, _, _, _, _, _, _, rfl, ?_⟩) fun q k eq ek hqk hd Y' Sd => ⟨_, _, _, _, _, _, _, _, _, _, _, rfl, ?_⟩
      · have Id := I7.step 4 Sd
        have Nb3 := box6 hd (.int .u64 0) (.int .i64 0) (.int .i64 0) (.int .i64 0) (.slice none 0 0) (.slice none 0 0) T.T_croftref6_Pool
        generalize Array.push hd (.cells #[.int .u64 0, .int .i64 0, .int .i64 0, .int .i64 0, .slice none 0 0, .slice none 0 0] T.T_croftref6_Pool) = he0 at Nb3 ⊢
        obtain ⟨b3, eb3⟩ : ∃ b3, b3 = Array.size hd := ⟨_, rfl⟩
        rw [← eb3] at Nb3 ⊢
        have Ie0 := Id.new Nb3
        obtain ⟨wb3, Sb3⟩ := assign6 (Ie0.at 0) (.int .u64 c.base) (.int .i64 c.limit) (.int .i64 c.order) (.int .i64 (x.st.n : Int)) (.slice Y.fp (O + 1) Y.fc) (.slice Y.vp L.length Y.vc)
        have Ie := Ie0.step 0 Sb3
        refine ⟨wb3, ?_⟩
        generalize setCs he0 ⟨b3, 0, none⟩ 0 [.int .u64 c.base, .int .i64 c.limit, .int .i64 c.order, .int .i64 (x.st.n : Int), .slice Y.fp (O + 1) Y.fc, .slice Y.vp L.length Y.vc] = he at Ie ⊢
        obtain ⟨n0, n1, n2, n3, n4, n5⟩ := f6_cells (Ie.at 0)
        refine ⟨_, oc Ie 2 5 (by omega), _, oc Ie 2 1 (by omega), ?_⟩
        refine givePN (Q := Q) W (Ie.at 4) ha (fun b' hb' he => hno b' hb' ⟨(hpg b' hb').2 he.1, he.2.symm⟩) fun hf Sf => ⟨_, rfl, iF rfl ?_⟩
        have If := Ie.step 4 Sf
        obtain ⟨n0, n1, n2, n3, n4, n5⟩ := f6_cells (If.at 0)
        exact ⟨_, n0, _, n1, _, n2, _, n3, _, _, _, n4, _, _, _, n5, done x fl L Q Y hf _ _ rfl rfl W hOo (fun _ _ => ⟨rfl, rfl, rfl⟩) (If.sub (.cons _ (.cons_cons _ (.cons _ (.cons _ (List.Sublist.refl _))))))⟩
      · have Id := I7.step 4 Sd
        have Nb3 := box6 hd (.int .u64 0) (.int .i64 0) (.int .i64 0) (.int .i64 0) (.slice none 0 0) (.slice none 0 0) T.T_croftref6_Pool
        generalize Array.push hd (.cells #[.int .u64 0, .int .i64 0, .int .i64 0, .int .i64 0, .slice none 0 0, .slice none 0 0] T.T_croftref6_Pool) = he0 at Nb3 ⊢
        obtain ⟨b3, eb3⟩ : ∃ b3, b3 = Array.size hd := ⟨_, rfl⟩
        rw [← eb3] at Nb3 ⊢
        have Ie0 := Id.new Nb3
        obtain ⟨wb3, Sb3⟩ := assign6 (Ie0.at 0) (.int .u64 c.base) (.int .i64 c.limit) (.int .i64 c.order) (.int .i64 (x.st.n : Int)) (.slice Y'.fp (O + 1) Y'.fc) (.slice Y'.vp (rmL L (q, k)).length Y'.vc)
        have Ie := Ie0.step 0 Sb3
        refine ⟨wb3, ?_⟩
        generalize setCs he0 ⟨b3, 0, none⟩ 0 [.int .u64 c.base, .int .i64 c.limit, .int .i64 c.order, .int .i64 (x.st.n : Int), .slice Y'.fp (O + 1) Y'.fc, .slice Y'.vp (rmL L (q, k)).length Y'.vc] = he at Ie ⊢
        obtain ⟨n0, n1, n2, n3, n4, n5⟩ := f6_cells (Ie.at 0)
        have eat : o.at' = adr c q := (hpg (q, k) hqk).1 eq.symm
        refine ⟨_, oc Ie 2 5 (by omega), _, oc Ie 2 1 (by omega), ?_⟩
        show CallV Try.prog w₀ F.region_Pool_Give [.pointer (some ⟨Q.pb, 0, none⟩), .int .u64 o.at', .int .i64 o.order] he _
        rw [eat, ek]
        refine giveP (Q := Q) (p := q) (k := k) W (Ie.at 4) (rm_perm W.nd hqk) fun x' hf W' M Sf => ⟨_, rfl, iT rfl ?_⟩
        have If := Ie.step 4 Sf
        obtain ⟨n0, n1, n2, n3, n4, n5⟩ := f6_cells (If.at 0)
        rw [hOo] at W'
        have hd2 := done x' _ (rmL L (q, k)) Q Y' hf _ _ rfl rfl W' (by rw [M.o, hOo]) (fun he => absurd he (Nat.ne_of_lt (rm_len hqk))) (If.sub (.cons _ (.cons_cons _ (.cons _ (.cons _ (List.Sublist.refl _))))))
        rw [M.k.1] at hd2
        exact ⟨_, n0, _, n1, _, n2, _, n3, _, _, _, n4, _, _, _, n5, hd2⟩
    have hba : c.base % 4096 = 0 := by
      have h1 := W.g.al
      unfold Cfg.size at h1
      have : (4096 : Int) ∣ ((4096 * 2 ^ c.order.toNat : Nat) : Int) := ⟨((2 ^ c.order.toNat : Nat) : Int), by rw [Int.natCast_mul]; rfl⟩
      exact Int.emod_eq_zero_of_dvd (Int.dvd_trans this (Int.dvd_of_emod_eq_zero h1))
    obtain ⟨ha1, ha2⟩ := ha
    refine ⟨_, oc I7 1 5 (by omega), _, k0, fun J34 hJ34 => ?_⟩
    have bad : (∀ b ∈ L, o.at' ≠ adr c b.1) → J27 [.pointer (some ⟨Q.pb, 0, none⟩), .pointer (some ⟨b0, 0, none⟩), .pointer (some ⟨b1, 0, none⟩), .pointer (some ⟨b2, 0, none⟩), .int .i64 (-1)] h7 := fun hno => m27 (-1) fun b hb => ⟨fun e => by omega, fun e => absurd e (hno b hb)⟩
    by_cases hge : o.at' ≥ c.base
    · refine qT (decide_eq_true hge) ⟨_, oc I7 1 5 (by omega), by decide, ?_⟩
      by_cases hmod : Int.tmod o.at' 4096 = 0
      · rw [show ((Int.tmod (f7 (.int .i64 o.kind) (.int .i64 o.order) (.int .i64 o.which) (.int .i64 o.more) (.bool o.deny) (.int .u64 o.at') (.slice o.dp o.dn o.dc) 5 |> fun _ => o.at') 4096) == 0) = true from by rw [show Int.tmod o.at' 4096 = 0 from hmod]; rfl]
        have hdiv : Int.tdiv (o.at' - c.base) 4096 = (o.at' - c.base) / 4096 := Int.tdiv_eq_ediv_of_nonneg (by omega)
        have ew : IntKind.wrap .u64 (o.at' - c.base) = o.at' - c.base := by rw [IntKind.wrap_u64]; omega
        have ew2 : IntKind.wrap .u64 ((o.at' - c.base) / 4096) = (o.at' - c.base) / 4096 := by rw [IntKind.wrap_u64]; omega
        have hmod' : o.at' % 4096 = 0 := by rw [← Int.tmod_eq_emod_of_nonneg ha1]; exact hmod
        refine hJ34 _ _ fun J35 hJ35 => qT rfl ⟨_, oc I7 1 5 (by omega), _, k0, by decide, ?_⟩
        rw [ew, hdiv, ew2]
        by_cases hpg : (o.at' - c.base) / 4096 < 1024
        · rw [decide_eq_true hpg]
          refine hJ35 _ _ (iT rfl ⟨_, oc I7 1 5 (by omega), _, k0, by decide, ?_⟩)
          rw [ew, hdiv, ew2, show IntKind.wrap .i64 ((o.at' - c.base) / 4096) = (o.at' - c.base) / 4096 by rw [IntKind.wrap_i64]; omega]
          exact m27 _ fun b hb => by unfold adr; omega
        · rw [decide_eq_false hpg]
          refine hJ35 _ _ (iF rfl (bad fun b hb e => ?_))
          have := hLb b hb
          unfold adr at e
          omega
      · rw [show (Int.tmod o.at' 4096 == 0) = false from beq_false_of_ne hmod]
        refine hJ34 _ _ fun J35 hJ35 => qF' rfl (hJ35 _ _ (iF rfl (bad fun b hb e => hmod ?_)))
        rw [Int.tmod_eq_emod_of_nonneg ha1]
        unfold adr at e
        omega
    · refine qF' (decide_eq_false hge) (hJ34 _ _ fun J35 hJ35 => qF' rfl (hJ35 _ _ (iF rfl (bad fun b hb e => hge ?_))))
      unfold adr at e
      omega
  by_cases hk4 : o.kind = 4
  · refine hJ17 _ _ (iF rfl ⟨_, oc0 I7 1, iF (beq_false_of_ne hk3) ⟨_, oc0 I7 1, iT (by rw [hk4]; rfl) ⟨_, k0, _, k1, _, k2, _, k3, _, _, _, k4, _, _, _, k5, ?_⟩⟩⟩)
    refine Trim6_ok hO hco (fun j hj => Nat.le_trans (fo.len j hj) (by omega)) hr (I7.at 4) fun r' fl' ht hd Y' Sd => ⟨_, _, _, _, _, _, _, _, _, _, _, rfl, ?_⟩
    have Id := I7.step 4 Sd
    have Nb3 := box6 hd (.int .u64 0) (.int .i64 0) (.int .i64 0) (.int .i64 0) (.slice none 0 0) (.slice none 0 0) T.T_croftref6_Pool
    generalize Array.push hd (.cells #[.int .u64 0, .int .i64 0, .int .i64 0, .int .i64 0, .slice none 0 0, .slice none 0 0] T.T_croftref6_Pool) = he0 at Nb3 ⊢
    obtain ⟨b3, eb3⟩ : ∃ b3, b3 = Array.size hd := ⟨_, rfl⟩
    rw [← eb3] at Nb3 ⊢
    have Ie0 := Id.new Nb3
    obtain ⟨wb3, Sb3⟩ := assign6 (Ie0.at 0) (.int .u64 c.base) (.int .i64 c.limit) (.int .i64 c.order) (.int .i64 (r' : Int)) (.slice Y'.fp (O + 1) Y'.fc) (.slice Y'.vp L.length Y'.vc)
    have Ie := Ie0.step 0 Sb3
    refine ⟨wb3, ?_⟩
    generalize setCs he0 ⟨b3, 0, none⟩ 0 [.int .u64 c.base, .int .i64 c.limit, .int .i64 c.order, .int .i64 (r' : Int), .slice Y'.fp (O + 1) Y'.fc, .slice Y'.vp L.length Y'.vc] = he at Ie ⊢
    obtain ⟨n0, n1, n2, n3, n4, n5⟩ := f6_cells (Ie.at 0)
    refine ⟨_, n0, _, n1, _, n2, _, n3, _, _, _, n4, _, _, _, n5, trimP W (Ie.at 4) fun x' flx Q' hf eq' _ ht' W' o' _ _ Sf => ⟨_, rfl, ?_⟩⟩
    have If := Ie.step 4 Sf
    obtain ⟨n0, n1, n2, n3, n4, n5⟩ := f6_cells (If.at 0)
    rw [hOo, ht] at ht'
    have er : r' = x'.st.n := congrArg Prod.fst ht'
    have ef : fl' = flx := congrArg Prod.snd ht'
    subst ef
    have hd2 := done x' fl' L Q' Y' hf _ (((x.st.n - x'.st.n : Nat) : Int) == ((x.st.n - r' : Nat) : Int)) (by rw [er]; exact beq_self_eq_true _) eq' W' (by rw [o', hOo]) (fun _ hk => by omega) (If.sub (.cons _ (.cons_cons _ (.cons _ (.cons _ (List.Sublist.refl _))))))
    rw [← er] at hd2 ⊢
    exact ⟨n0, n1, n2, n3, n4, n5, hd2⟩
  by_cases hl0 : L.length = 0
  · exact nothing hk3 hk4 (.inr hl0)
  by_cases hk5 : o.kind = 5
  case neg => exact nothing hk3 hk4 (.inl hk5)
  refine hJ17 _ _ (iF rfl ⟨_, oc0 I7 1, iF (beq_false_of_ne hk3) ⟨_, oc0 I7 1, iF (beq_false_of_ne hk4) ⟨_, oc0 I7 1, fun J41 hJ41 => qT (by rw [hk5]; rfl) ⟨_, _, _, k5, ?_⟩⟩⟩⟩)
  rw [decide_eq_true (by omega)]
  refine hJ41 _ _ (iT rfl ⟨_, k0, _, k1, _, k2, _, k3, _, _, _, k4, _, _, _, k5, _, oc I7 1 2 (by omega), ?_⟩)
  refine which6_ok (by omega) (by omega) (I7.at 4 (R := rfR Y O fl L)).2.1 fun b hbL h8 u8 => ⟨_, _, rfl, ?_⟩
  have I8 := I7.quiet u8
  have N9 := box2 h8 (.int .i64 0) (.int .i64 0) T.T_croftref6_Block
  generalize Array.push h8 (.cells #[.int .i64 0, .int .i64 0] T.T_croftref6_Block) = h9 at N9 ⊢
  obtain ⟨b3, eb3⟩ : ∃ b3, b3 = Array.size h8 := ⟨_, rfl⟩
  rw [← eb3] at N9 ⊢
  have u9 : Upd NoB h h9 := (u7.nx u8 fun _ e _ => e).nx N9.u fun _ e _ => e
  have I9 := I8.new N9
  obtain ⟨wa, Sa⟩ := assign2 (I9.at 0) (.int .i64 (b.1 : Int)) (.int .i64 (b.2 : Int))
  have Ia := I9.step 0 Sa
  have ua := u9.nx Sa.u fun b e hb => by
    have e : b = b3 := e
    have := (u7.nx u8 fun _ e _ => e).1
    omega
  refine ⟨wa, ?_⟩
  generalize setCs h9 ⟨b3, 0, none⟩ 0 [.int .i64 (b.1 : Int), .int .i64 (b.2 : Int)] = ha' at Ia ua ⊢
  obtain ⟨m0, m1, m2, m3, m4, m5⟩ := f6_cells (Ia.at 3)
  obtain ⟨q0, q1⟩ := f2_cells (Ia.at 0)
  obtain ⟨hb1, hb2⟩ := hLb b hbL
  have p82 := pow8 (show b.2 ≤ 8 by omega)
  have P : (plR c Q x).P ha' := Ia.at 4
  refine ⟨_, q1, Power_ok (by omega) ⟨_, rfl, _, _, _, oc Ia 2 6 (by omega), fun J46 hJ46 => ?_⟩⟩
  have e46 : IntKind.wrap .i64 ((4096 : Int) * ((2 ^ b.2 : Nat) : Int)) = ((4096 * 2 ^ b.2 : Nat) : Int) := by rw [IntKind.wrap_i64]; omega
  have m46 : ∀ (m cap : Nat) (q : Option Addr), m ≤ 4096 * 2 ^ b.2 → m ≤ cap → Row h q m (fun i => .int .u8 (o.g i)) → m ≤ o.dn → (m = 0 ∨ Off Q.B.Z q) →
      J46 [.pointer (some ⟨Q.pb, 0, none⟩), .pointer (some ⟨b0, 0, none⟩), .pointer (some ⟨b2, 0, none⟩), .pointer (some ⟨b3, 0, none⟩), .slice q m cap] ha' := by
    intro m cap q hm1 hm2 hrow' hdn hoff'
    refine hJ46 _ _ _ _ _ _ _ _ ⟨_, m0, _, m1, _, m2, _, m3, _, _, _, m4, _, _, _, m5, _, rfl, _, m0, _, m1, _, m2, _, q0, ground_Space_ok P ⟨_, rfl, q0, m0, m1, m2, m0, m1, m2, m3, m4, m5, Address6_ok ⟨by omega, by omega⟩ (by omega) fun hc uc => ⟨_, rfl, ?_⟩⟩⟩
    have Ic := Ia.quiet uc
    obtain ⟨m0, m1, m2, m3, m4, m5⟩ := f6_cells (Ic.at 3)
    refine ⟨m0, m1, m2, m3, m4, m5, ?_⟩
    have hrc := hrow'.upd (ua.nx uc fun _ e _ => e) fun _ _ => id
    refine writeP (p := b.1) (k := b.2) W hbL hm1 hm2 (Ic.at 4) hrc (fun j hj => hby j (by omega)) hoff' fun st' hf en eM eM' W' Sf => ⟨_, rfl, ?_⟩
    have If := Ic.step 4 Sf
    obtain ⟨n0, n1, n2, n3, n4, n5⟩ := f6_cells (If.at 3)
    have en : st'.n = x.st.n := en
    have hd2 := done ⟨st', x.hd, x.m⟩ fl L Q Y hf _ _ rfl rfl W' hOo (fun _ hk => by omega) (If.sub (.cons _ (.cons_cons _ (.cons _ (.cons _ (List.Sublist.refl _))))))
    simp only [en] at hd2
    exact ⟨n0, n1, n2, n3, n4, n5, hd2⟩
  rw [e46]
  by_cases hgt : 4096 * 2 ^ b.2 < o.dn
  · refine iT (decide_eq_true (by omega)) ⟨Int.le_refl _, by omega, by omega, ?_⟩
    have ep : (if o.dc = Int.toNat 0 then o.dp else Option.map (fun b => Addr.add b (Int.toNat 0 * 1)) o.dp) = o.dp := by
      rw [if_neg (show ¬ o.dc = Int.toNat 0 by show ¬ o.dc = 0; omega)]
      rcases hrow with e | ⟨bb, oo, e, _⟩
      · omega
      · rw [e]; show some ((⟨bb, oo, none⟩ : Addr).add 0) = _; rw [add_mk]; rfl
    rw [ep, Int.toNat_natCast, show Int.toNat 0 = 0 from rfl, Nat.sub_zero, Nat.sub_zero]
    exact m46 _ _ _ (Nat.le_refl _) (by omega) (hrow.take (by omega)) (by omega) (hoff.elim (fun e => absurd e (by omega)) .inr)
  · exact iF (decide_eq_false (by omega)) (m46 _ _ _ (by omega) hdc.1 hrow (Nat.le_refl _) hoff)
end
end Go.Proofs.Ytippbfnhgooepaa
