/- croftlaw5: BuddyKnown. No condition. -/
import Derived.Test.YtnlcmfdmbgnpfaaBN
set_option linter.unusedSimpArgs false
set_option linter.unusedVariables false
namespace Go.Proofs.Ytnlcmfdmbgnpfaa
open Go.V Classical

theorem blks_congr {O : Nat} {F1 F2 : Nat → List Nat} (h : ∀ k, k ≤ O → F1 k = F2 k) : blks O F1 = blks O F2 := by
  unfold blks
  rw [List.flatMap_def, List.flatMap_def]
  congr 1
  refine List.map_congr_left fun k hk => ?_
  rw [h k (by have := List.mem_range.1 hk; omega)]

theorem WI.congr {c : Cfg} {x : BU} {f1 f2 : Nat → List Nat} {L : List PBk} (W : WI c x f1 L) (h : ∀ k, k ≤ x.m.o → f1 k = f2 k) : WI c x f2 L := by
  have R := W.rep
  refine ⟨⟨R.ok, R.rm, by rw [← blks_congr h]; exact R.til, fun k p hk hp => ?_, fun k hk => by rw [← h k hk]; exact R.ls k hk, fun k p hk hp => R.pf k p hk (by rw [h k hk]; exact hp), R.pl, fun k p hk hp hn => ?_⟩, W.e, W.g⟩
  · rw [← h k (by omega)] at hp ⊢; exact R.nb k p hk hp
  · rw [← h k (by omega)]; exact R.bt k p hk hp hn

def t3 (a b d : List Nat) : Nat → List Nat
  | 0 => a
  | 1 => b
  | 2 => d
  | _ => []

theorem WI.t3 {c : Cfg} {x : BU} {f : Nat → List Nat} {L : List PBk} (W : WI c x f L) (ho : x.m.o = 2) (a b d : List Nat) (h0 : f 0 = a) (h1 : f 1 = b) (h2 : f 2 = d) : WI c x (t3 a b d) L :=
  W.congr fun k hk => by
    have : k = 0 ∨ k = 1 ∨ k = 2 := by omega
    rcases this with rfl | rfl | rfl
    · exact h0
    · exact h1
    · exact h2

section
variable {w₀ : World} {h : Heap} {c : Cfg} {Q : WW} {x : BU} {K : Value → Heap → Prop} {fl : Nat → List Nat} {L L' : List PBk} {p k : Nat}

theorem shrinkN (W : WI c x fl L) (H : (wsR c Q x).P h) {a o t : Int} (ha : U64 a) (hL : ∀ b ∈ L, ¬ (a = adr c b.1 ∧ o = b.2)) (hK : ∀ h', Stp h h' (wsR c Q x) (wsR c Q x) → K (.int .i64 1) h') :
    CallV Try.prog w₀ F.buddy_Buddy_Shrink [.pointer (some ⟨Q.W.b, 0, none⟩), .int .u64 a, .int .i64 o, .int .i64 t] h K := by
  refine bu_Shrink_ok ha W.ok (wd_bu H) fun h' ok' o' S => ?_
  have e : shrinkU c x a o t = (x, 1) := by unfold shrinkU; rw [liveU_no W.g W.rep hL]
  rw [e] at S ⊢
  exact hK h' (wd_lift' H rfl S)

/-- Take, at three orders. -/
theorem take3 {a b d : List Nat} (W : WI c x (t3 a b d) L) (ho : x.m.o = 2) (H : (wsR c Q x).P h) {o j p : Nat} {l : List Nat} (hoj : o ≤ j) (hj : j ≤ 2) (hF : t3 a b d j = p :: l) (hi : ∀ i, o ≤ i → i < j → t3 a b d i = [])
    (h0 : ∀ x' h', WI c x' (aCut p o (fset (t3 a b d) j l) (j - o)) ((p, o) :: L) → x'.m.o = 2 → Mv x x' L → Stp h h' (wsR c Q x) (wsR c Q x') → K (.tuple #[.int .u64 (adr c p), .int .i64 0]) h') :
    CallV Try.prog w₀ F.buddy_Buddy_Take [.pointer (some ⟨Q.W.b, 0, none⟩), .int .i64 (o : Int)] h K := by
  refine takeW W H (by omega) (fun hall => ?_) fun j' p' l' h1 h2 hF' hi' x' h' W' M S => ?_
  · have := hall j hoj (by omega)
    rw [hF] at this; cases this
  · have ej : j' = j := by
      rcases Nat.lt_trichotomy j' j with hl | hl | hl
      · have := hi j' h1 hl
        rw [hF'] at this; cases this
      · exact hl
      · have := hi' j hoj hl
        rw [hF] at this; cases this
    subst ej
    rw [hF] at hF'
    cases hF'
    exact h0 x' h' W' (by rw [M.o, ho]) M S
end

theorem adr5 : adr C5 0 = 65536 ∧ adr C5 1 = 69632 ∧ adr C5 2 = 73728 ∧ adr C5 3 = 77824 := by decide

theorem BuddyKnown_law {w : World} : CallV Try.prog w F.croftlaw5_BuddyKnown [] w.heap fun v h' => v = .bool true ∧ Upd NoB w.heap h' := by
  have hfin : ∀ h', Upd NoB w.heap h' → (fun (r : Value) (h' : Heap) => r = Value.bool true ∧ Upd NoB w.heap h') (.bool true) h' := fun h' u => ⟨rfl, u⟩
  generalize (fun (r : Value) (h' : Heap) => r = Value.bool true ∧ Upd NoB w.heap h') = K at hfin ⊢
  refine croftlaw5_BuddyKnown.call ?_
  unfold croftlaw5_BuddyKnown.vc
  obtain ⟨A0, A1, A2, A3⟩ := adr5
  refine beginW (by unfold U64; omega) fun h1 Q N1 => ⟨_, rfl, fun J2 hJ2 => pF rfl ?_⟩
  rw [usual5] at N1
  generalize hwb : Q.wb = wb at hJ2 ⊢
  obtain ⟨wb0, Wp0, fp0, fn0, fc0, vp0, vc0⟩ := Q
  have hwb : wb0 = wb := hwb
  subst hwb
  have g := C5_good
  have W0 := wi0 g
  have mo : (BU0 C5).m.o = 2 := bu0_o g
  have mn : (BU0 C5).m.n = 0 := rfl
  have sn : (BU0 C5).st.n = 0 := rfl
  generalize BU0 C5 = x0 at N1 W0 mo mn sn
  have I1 := (Hold.nil w.heap).new N1
  refine lives_ok fun h2 u2 => ⟨_, rfl, hJ2 _ _ (iF rfl ?_)⟩
  have I2 := I1.quiet u2
  have hlim : (x0.st.n : Int) < C5.limit := by rw [sn]; decide
  refine comeW (fl := fun _ => []) (L := []) (Q := ⟨wb0, Wp0, fp0, fn0, fc0, vp0, vc0⟩) W0 (I2.at 0) hlim fun x1 h3 Q1 eQ W1 eo en es _ S3 => ⟨_, rfl, fun J4 hJ4 => pF rfl ?_⟩
  have I3 := I2.step 0 S3
  have e1 : x1.m.n - 2 ^ x1.m.o = 0 := by rw [en, eo, mn, Nat.zero_add, Nat.sub_self]
  obtain ⟨wb1, Wp, fp1, fn1, fc1, vp1, vc1⟩ := Q1
  have eQ : wb1 = wb0 := eQ
  subst eQ
  have o1 : x1.m.o = 2 := by rw [eo, mo]
  have n1 : x1.m.n = 4 := by rw [en, mo, mn]
  refine ⟨_, rfl, _, wd_cell (I3.at 0) (i := 5) (by omega), ?_⟩
  refine feedW W1 (I3.at 0) (by omega) (L' := []) (by rw [e1, eo, mn]) fun x2 h4 W2 M2 S4 => ⟨_, rfl, hJ4 _ _ (iF rfl ?_)⟩
  have I4 := I3.step 0 S4
  rw [e1, o1] at W2
  have o2 : x2.m.o = 2 := by rw [M2.o, o1]
  have n2 : x2.m.n = 4 := by rw [M2.n, n1]
  have W2 := W2.t3 o2 [] [] [0] (by decide) (by decide) (by decide)
  -- three pages
  refine ⟨_, rfl, _, wd_cell (I4.at 0) (i := 5) (by omega), ?_⟩
  refine take3 (o := 0) (j := 2) (p := 0) (l := []) W2 o2 (I4.at 0) (by omega) (by omega) rfl (fun i _ hi => by have : i = 0 ∨ i = 1 := (by omega); rcases this with rfl | rfl <;> rfl) fun x3 h5 W3 o3 M3 S5 => ⟨_, _, rfl, ?_⟩
  have I5 := I4.step 0 S5
  have W3 := W3.t3 o3 [1] [2] [] (by decide) (by decide) (by decide)
  refine ⟨_, rfl, _, wd_cell (I5.at 0) (i := 5) (by omega), ?_⟩
  refine take3 (o := 0) (j := 0) (p := 1) (l := []) W3 o3 (I5.at 0) (by omega) (by omega) rfl (fun i _ hi => by omega) fun x4 h6 W4 o4 M4 S6 => ⟨_, _, rfl, ?_⟩
  have I6 := I5.step 0 S6
  have W4 := W4.t3 o4 [] [2] [] (by decide) (by decide) (by decide)
  refine ⟨_, rfl, _, wd_cell (I6.at 0) (i := 5) (by omega), ?_⟩
  refine take3 (o := 0) (j := 1) (p := 2) (l := []) W4 o4 (I6.at 0) (by omega) (by omega) rfl (fun i _ hi => by have : i = 0 := (by omega); subst this; rfl) fun x5 h7 W5 o5 M5 S7 => ⟨_, _, rfl, ?_⟩
  have I7 := I6.step 0 S7
  have W5 := W5.t3 o5 [3] [] [] (by decide) (by decide) (by decide)
  have U0 : U64 (adr C5 0) := by rw [A0]; unfold U64; omega
  have U1 : U64 (adr C5 1) := by rw [A1]; unfold U64; omega
  have U2 : U64 (adr C5 2) := by rw [A2]; unfold U64; omega
  refine fun J8 hJ8 => pF (by decide) (hJ8 _ _ fun J9 hJ9 => pF (by decide) (hJ9 _ _ fun J10 hJ10 => pF (by decide) ⟨_, rfl, _, wd_cell (I7.at 0) (i := 5) (by omega), ?_⟩))
  -- one comes back
  refine giveN W5 (I7.at 0) U1 (fun b hb => ?_) fun h8 S8 => ⟨_, rfl, hJ10 _ _ fun J11 hJ11 => pF rfl ?_⟩
  · have : b = (2, 0) ∨ b = (1, 0) ∨ b = (0, 0) := by simpa using hb
    rcases this with rfl | rfl | rfl <;> decide
  have I8 := I7.step 0 S8
  refine ⟨_, rfl, _, wd_cell (I8.at 0) (i := 5) (by omega), ?_⟩
  refine giveW (p := 1) (k := 0) (L' := [(2, 0), (0, 0)]) W5 (I8.at 0) (.swap _ _ _) fun x6 h9 W6 M6 S9 => ⟨_, rfl, hJ11 _ _ fun J12 hJ12 => pF rfl ?_⟩
  have I9 := I8.step 0 S9
  have o6 : x6.m.o = 2 := by rw [M6.o, o5]
  rw [o5] at W6
  have W6 := W6.t3 o6 [1, 3] [] [] (by decide) (by decide) (by decide)
  refine ⟨_, rfl, _, wd_cell (I9.at 0) (i := 5) (by omega), ?_⟩
  refine giveN W6 (I9.at 0) U1 (fun b hb => ?_) fun h10 S10 => ⟨_, rfl, hJ12 _ _ fun J13 hJ13 => pF rfl ?_⟩
  · have : b = (2, 0) ∨ b = (0, 0) := by simpa using hb
    rcases this with rfl | rfl <;> decide
  have I10 := I9.step 0 S10
  refine ⟨_, rfl, _, wd_cell (I10.at 0) (i := 5) (by omega), ?_⟩
  refine freeW W6 (I10.at 0) (o := 0) (by omega) fun h11 p11 c11 S11 => ⟨_, _, _, rfl, ?_⟩
  have I11 := (I10.step 0 S11).split
  have N12 := sl_lit h11 #[.int .u64 69632, .int .u64 77824] T.T_uint64 2 1 rfl
  generalize Array.push h11 (.cells #[.int .u64 69632, .int .u64 77824] T.T_uint64) = h12 at N12 ⊢
  have I12 := I11.new N12
  refine ints_ok (xs := (t3 [1, 3] [] [] 0).map (adr C5)) (ys := [69632, 77824]) (by decide) (sl_uL (I12.at 2)) (uL_lit (I12.at 0) rfl fun i hi => ?_) ⟨_, rfl, hJ13 _ _ (iF (by decide) ?_)⟩
  · have hi : i < 2 := hi
    have : i = 0 ∨ i = 1 := by omega
    rcases this with rfl | rfl <;> rfl
  -- another
  have I13 : Hold w.heap h12 [wsR C5 ⟨wb1, Wp, fp1, fn1, fc1, vp1, vc1⟩ x6] := I12.sub (.cons _ (.cons_cons _ (.cons _ .slnil)))
  refine ⟨_, rfl, _, wd_cell (I13.at 0) (i := 5) (by omega), ?_⟩
  refine giveW (p := 2) (k := 0) (L' := [(0, 0)]) W6 (I13.at 0) (List.Perm.refl _) fun x7 h13 W7 M7 S13 => ⟨_, rfl, fun J15 hJ15 => pF rfl ?_⟩
  have I14 := I13.step 0 S13
  have o7 : x7.m.o = 2 := by rw [M7.o, o6]
  rw [o6] at W7
  have W7 := W7.t3 o7 [1] [2] [] (by decide) (by decide) (by decide)
  refine ⟨_, rfl, _, wd_cell (I14.at 0) (i := 5) (by omega), ?_⟩
  refine headsW W7 (I14.at 0) fun h14 p14 c14 N14 => ?_
  have hd7 : hdL C5 (t3 [1] [2] []) x7.m.o = [69632, 73728, 0] := by rw [o7]; decide
  rw [hd7] at N14 ⊢
  have I15 := I14.new N14
  have N15 := sl_lit h14 #[.int .u64 69632, .int .u64 73728, .int .u64 0] T.T_uint64 3 1 rfl
  refine ⟨_, _, _, rfl, ?_⟩
  generalize Array.push h14 (.cells #[.int .u64 69632, .int .u64 73728, .int .u64 0] T.T_uint64) = h15 at N15 ⊢
  have I16 := I15.new N15
  refine ints_ok (xs := [69632, 73728, 0]) (ys := [69632, 73728, 0]) (by decide) (sl_uL (I16.at 1)) (uL_lit (I16.at 0) rfl fun i hi => ?_) ⟨_, rfl, hJ15 _ _ (iF (by decide) ?_)⟩
  · have hi : i < 3 := hi
    have : i = 0 ∨ i = 1 ∨ i = 2 := by omega
    rcases this with rfl | rfl | rfl <;> rfl
  -- three orders
  have I17 : Hold w.heap h15 [wsR C5 ⟨wb1, Wp, fp1, fn1, fc1, vp1, vc1⟩ x7] := I16.sub (.cons _ (.cons _ (.cons_cons _ .slnil)))
  refine ⟨_, rfl, _, wd_cell (I17.at 0) (i := 5) (by omega), ?_⟩
  refine takeW (o := 2) W7 (I17.at 0) (by omega) (fun _ h16 S16 => ⟨_, _, rfl, ?_⟩) fun j p l hj1 hj2 hF => ?_
  rotate_left
  · have : j = 2 := by omega
    subst this
    cases hF
  have I18 := I17.step 0 S16
  refine ⟨_, rfl, _, wd_cell (I18.at 0) (i := 5) (by omega), ?_⟩
  refine take3 (o := 1) (j := 1) (p := 2) (l := []) W7 o7 (I18.at 0) (by omega) (by omega) rfl (fun i _ hi => by omega) fun x8 h17 W8 o8 M8 S17 => ⟨_, _, rfl, ?_⟩
  have I19 := I18.step 0 S17
  have W8 := W8.t3 o8 [1] [] [] (by decide) (by decide) (by decide)
  refine ⟨_, rfl, _, wd_cell (I19.at 0) (i := 5) (by omega), ?_⟩
  refine takeN W8 (I19.at 0) (.inr (by omega)) fun h18 S18 => ⟨_, _, rfl, fun J19 hJ19 => pF rfl (hJ19 _ _ fun J20 hJ20 => pF rfl (hJ20 _ _ fun J21 hJ21 => pF (by decide) (hJ21 _ _ fun J22 hJ22 => pF rfl (hJ22 _ _ fun J23 hJ23 => pF rfl (hJ23 _ _ (iF rfl ?_))))))⟩
  have I20 := I19.step 0 S18
  refine ⟨_, rfl, _, wd_cell (I20.at 0) (i := 5) (by omega), ?_⟩
  -- one is made less
  refine shrinkW (p := 2) (k := 1) (t := 0) (L' := [(0, 0)]) W8 (I20.at 0) (by omega) (List.Perm.refl _) fun x9 h19 W9 M9 _ S19 => ⟨_, rfl, fun J25 hJ25 => pF rfl ?_⟩
  have I21 := I20.step 0 S19
  have o9 : x9.m.o = 2 := by rw [M9.o, o8]
  have W9 := W9.t3 o9 [3, 1] [] [] (by decide) (by decide) (by decide)
  refine ⟨_, rfl, _, wd_cell (I21.at 0) (i := 5) (by omega), ?_⟩
  refine shrinkN W9 (I21.at 0) U2 (fun b hb => ?_) fun h20 S20 => ⟨_, rfl, hJ25 _ _ fun J26 hJ26 => pF rfl ?_⟩
  · have : b = (2, 0) ∨ b = (0, 0) := by simpa using hb
    rcases this with rfl | rfl <;> decide
  have I22 := I21.step 0 S20
  refine ⟨_, rfl, _, wd_cell (I22.at 0) (i := 5) (by omega), ?_⟩
  refine shrinkW (p := 2) (k := 0) (t := 0) (L' := [(0, 0)]) W9 (I22.at 0) (by omega) (List.Perm.refl _) fun xa h21 Wa Ma _ S21 => ⟨_, rfl, hJ26 _ _ fun J27 hJ27 => pF rfl ?_⟩
  have I23 := I22.step 0 S21
  have oa : xa.m.o = 2 := by rw [Ma.o, o9]
  have Wa := Wa.t3 oa [3, 1] [] [] (by decide) (by decide) (by decide)
  refine ⟨_, rfl, _, wd_cell (I23.at 0) (i := 5) (by omega), ?_⟩
  refine freeW Wa (I23.at 0) (o := 0) (by omega) fun h22 p22 c22 S22 => ⟨_, _, _, rfl, ?_⟩
  have I24 := (I23.step 0 S22).split
  have N23 := sl_lit h22 #[.int .u64 77824, .int .u64 69632] T.T_uint64 2 1 rfl
  generalize Array.push h22 (.cells #[.int .u64 77824, .int .u64 69632] T.T_uint64) = h23 at N23 ⊢
  have I25 := I24.new N23
  refine ints_ok (xs := (t3 [3, 1] [] [] 0).map (adr C5)) (ys := [77824, 69632]) (by decide) (sl_uL (I25.at 2)) (uL_lit (I25.at 0) rfl fun i hi => ?_) ⟨_, rfl, hJ27 _ _ (iF (by decide) ?_)⟩
  · have hi : i < 2 := hi
    have : i = 0 ∨ i = 1 := by omega
    rcases this with rfl | rfl <;> rfl
  have I26 : Hold w.heap h23 [wsR C5 ⟨wb1, Wp, fp1, fn1, fc1, vp1, vc1⟩ xa] := I25.sub (.cons _ (.cons_cons _ (.cons _ .slnil)))
  refine ⟨_, rfl, _, wd_cell (I26.at 0) (i := 5) (by omega), ?_⟩
  -- the rest comes back
  refine giveW (p := 0) (k := 0) (L' := [(2, 0)]) Wa (I26.at 0) (.swap _ _ _) fun xb h24 Wb Mb S24 => ⟨_, rfl, fun J29 hJ29 => pF rfl ?_⟩
  have I27 := I26.step 0 S24
  have ob : xb.m.o = 2 := by rw [Mb.o, oa]
  rw [oa] at Wb
  have Wb := Wb.t3 ob [3] [0] [] (by decide) (by decide) (by decide)
  refine ⟨_, rfl, _, wd_cell (I27.at 0) (i := 5) (by omega), ?_⟩
  refine pullN Wb (I27.at 0) (by rw [ob]; exact List.not_mem_nil) fun h25 S25 => ⟨_, rfl, hJ29 _ _ fun J30 hJ30 => pF rfl ?_⟩
  have I28 := I27.step 0 S25
  refine ⟨_, rfl, _, wd_cell (I28.at 0) (i := 5) (by omega), ?_⟩
  refine giveW (p := 2) (k := 0) (L' := []) Wb (I28.at 0) (List.Perm.refl _) fun xc h26 Wc Mc S26 => ⟨_, rfl, hJ30 _ _ fun J31 hJ31 => pF rfl ?_⟩
  have I29 := I28.step 0 S26
  have oc : xc.m.o = 2 := by rw [Mc.o, ob]
  rw [ob] at Wc
  have Wc := Wc.t3 oc [] [] [0] (by decide) (by decide) (by decide)
  have nc : xc.m.n = 4 := by rw [Mc.n, Mb.n, Ma.n, M9.n, M8.n, M7.n, M6.n, M5.n, M4.n, M3.n, n2]
  have ec : xc.m.n - 2 ^ xc.m.o = 0 := by rw [nc, oc]
  refine ⟨_, rfl, _, wd_cell (I29.at 0) (i := 5) (by omega), ?_⟩
  refine pullW Wc (I29.at 0) (Wc.pos (by omega)) (by rw [ec, oc]; exact List.mem_cons_self ..) fun xd h27 Wd Md S27 => ⟨_, rfl, hJ31 _ _ fun J32 hJ32 => pF rfl ?_⟩
  have I30 := I29.step 0 S27
  have od : xd.m.o = 2 := by rw [Md.o, oc]
  rw [ec, oc] at Wd
  have Wd := Wd.t3 od [] [] [] (by decide) (by decide) (by decide)
  refine ⟨_, rfl, _, wd_cell (I30.at 0) (i := 5) (by omega), ?_⟩
  refine headsW Wd (I30.at 0) fun h28 p28 c28 N28 => ?_
  have hdd : hdL C5 (t3 [] [] []) xd.m.o = [0, 0, 0] := by rw [od]; decide
  rw [hdd] at N28 ⊢
  have I31 := I30.new N28
  have N29 := sl_lit h28 #[.int .u64 0, .int .u64 0, .int .u64 0] T.T_uint64 3 1 rfl
  refine ⟨_, _, _, rfl, ?_⟩
  generalize Array.push h28 (.cells #[.int .u64 0, .int .u64 0, .int .u64 0] T.T_uint64) = h29 at N29 ⊢
  have I32 := I31.new N29
  refine ints_ok (xs := [0, 0, 0]) (ys := [0, 0, 0]) (by decide) (sl_uL (I32.at 1)) (uL_lit (I32.at 0) rfl fun i hi => ?_) ⟨_, rfl, hJ32 _ _ (iF (by decide) ?_)⟩
  · have hi : i < 3 := hi
    have : i = 0 ∨ i = 1 ∨ i = 2 := by omega
    rcases this with rfl | rfl | rfl <;> rfl
  have I33 : Hold w.heap h29 [wsR C5 ⟨wb1, Wp, fp1, fn1, fc1, vp1, vc1⟩ xd] := I32.sub (.cons _ (.cons _ (.cons_cons _ .slnil)))
  refine ⟨_, rfl, _, wd_cell (I33.at 0) (i := 5) (by omega), ?_⟩
  have nd : xd.m.n = 4 := by rw [Md.n, nc]
  have ed : xd.m.n - 2 ^ xd.m.o = 0 := by rw [nd, od]
  refine feedW Wd (I33.at 0) (Wd.pos (by omega)) (L' := []) (by rw [ed, od]) fun xe h30 We Me S30 => ⟨_, rfl, fun J34 hJ34 => qT rfl ?_⟩
  have I34 := I33.step 0 S30
  rw [ed, od] at We
  have oe : xe.m.o = 2 := by rw [Me.o, od]
  have We := We.t3 oe [] [] [0] (by decide) (by decide) (by decide)
  refine ⟨_, rfl, _, wd_cell (I34.at 0) (i := 5) (by omega), ?_⟩
  refine freeW We (I34.at 0) (o := 2) (by omega) fun h31 p31 c31 S31 => ⟨_, _, _, rfl, ?_⟩
  have I35 := (I34.step 0 S31).split
  have N32 := sl_lit h31 #[.int .u64 65536] T.T_uint64 1 1 rfl
  generalize Array.push h31 (.cells #[.int .u64 65536] T.T_uint64) = h32 at N32 ⊢
  have I36 := I35.new N32
  refine ints_ok (xs := (t3 [] [] [0] 2).map (adr C5)) (ys := [65536]) (by decide) (sl_uL (I36.at 2)) (uL_lit (I36.at 0) rfl fun i hi => ?_) ⟨_, rfl, hJ34 _ _ fun J35 hJ35 => qT (by decide) ?_⟩
  · have hi : i < 1 := hi
    have : i = 0 := by omega
    subst this; rfl
  refine ⟨_, rfl, _, wd_cell (I36.at 1) (i := 5) (by omega), ?_⟩
  exact freeN We (I36.at 1) (.inr (by omega)) ⟨_, _, _, rfl, hJ35 _ _ (hfin _ I36.u)⟩
end Go.Proofs.Ytnlcmfdmbgnpfaa
