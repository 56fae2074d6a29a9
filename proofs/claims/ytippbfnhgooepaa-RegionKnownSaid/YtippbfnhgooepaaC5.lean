/- croftlaw6: RegionKnown. No condition. -/
import Derived.Test.YtippbfnhgooepaaC3
import Derived.Test.YtippbfnhgooepaaGcroftlaw6RegionKnown
set_option linter.unusedSimpArgs false
set_option linter.unusedVariables false
namespace Go.Proofs.Ytippbfnhgooepaa
open Go.V Classical

theorem blks_cong {O : Nat} {F1 F2 : Nat → List Nat} (h : ∀ k, k ≤ O → F1 k = F2 k) : blks O F1 = blks O F2 := by
  unfold blks
  rw [List.flatMap_def, List.flatMap_def]
  congr 1
  refine List.map_congr_left fun k hk => ?_
  rw [h k (by have := List.mem_range.1 hk; omega)]

theorem WI.cong {c : Cfg} {x : BU} {f1 f2 : Nat → List Nat} {L : List PBk} (W : WI c x f1 L) (h : ∀ k, k ≤ x.m.o → f1 k = f2 k) : WI c x f2 L := by
  have R := W.rep
  refine ⟨⟨R.ok, R.rm, by rw [← blks_cong h]; exact R.til, fun k p hk hp => ?_, fun k hk => by rw [← h k hk]; exact R.ls k hk, fun k p hk hp => R.pf k p hk (by rw [h k hk]; exact hp), R.pl, fun k p hk hp hn => ?_⟩, W.e, W.g⟩
  · rw [← h k (by omega)] at hp ⊢; exact R.nb k p hk hp
  · rw [← h k (by omega)]; exact R.bt k p hk hp hn

def t2 (a b : List Nat) : Nat → List Nat
  | 0 => a
  | 1 => b
  | _ => []

theorem WI.t2 {c : Cfg} {x : BU} {f : Nat → List Nat} {L : List PBk} (W : WI c x f L) (ho : x.m.o = 1) (a b : List Nat) (h0 : f 0 = a) (h1 : f 1 = b) : WI c x (t2 a b) L :=
  W.cong fun k hk => by
    have : k = 0 ∨ k = 1 := by omega
    rcases this with rfl | rfl
    · exact h0
    · exact h1

section
variable {w₀ : World} {h : Heap} {c : Cfg} {pb : Nat} {B : BW} {x : BU} {K : Value → Heap → Prop} {L L' : List PBk} {a b : List Nat}

theorem needT {on j p : Nat} {l : List Nat} {deny : Bool} (W : WI c x (t2 a b) L) (ho : x.m.o = 1) (H : (plR c ⟨pb, B⟩ x).P h) (hoj : on ≤ j) (hj : j ≤ 1) (hF : t2 a b j = p :: l) (hi : ∀ i, on ≤ i → i < j → t2 a b i = [])
    (h0 : ∀ x' h', WI c x' (aCut p on (fset (t2 a b) j l) (j - on)) ((p, on) :: L) → x'.m.o = 1 → x'.st.n = x.st.n → x'.m.n = x.m.n → Stp h h' (plR c ⟨pb, B⟩ x) (plR c ⟨pb, B⟩ x') → K (.tuple #[.int .u64 (adr c p), .bool false, .int .i64 0]) h') :
    CallV Try.prog w₀ F.region_Pool_Need [.pointer (some ⟨pb, 0, none⟩), .int .i64 (on : Int), .bool deny] h K := by
  refine needP (Q := ⟨pb, B⟩) W H (fun hb => absurd hb (by omega)) (fun o2 eo ho2 j' p' l' h1 h2 hF' hi' x' h' W' M S => ?_) (fun o2 eo ho2 hall _ => ?_) fun o2 eo ho2 hall _ _ => ?_
  · have eo : o2 = on := by omega
    subst eo
    have ej : j' = j := by
      rcases Nat.lt_trichotomy j' j with hl | hl | hl
      · have := hi j' h1 hl
        rw [hF'] at this; cases this
      · exact hl
      · have := hi' j hoj hl
        rw [hF] at this; cases this
    subst ej
    rw [hF] at hF'
    cases hF'
    exact h0 x' h' W' (by rw [M.o, ho]) M.k.1 M.n S
  · have := hall j (by omega) (by omega)
    rw [hF] at this; cases this
  · have := hall j (by omega) (by omega)
    rw [hF] at this; cases this

theorem needM {on : Nat} {deny : Bool} (W : WI c x (t2 a b) L) (ho : x.m.o = 1) (H : (plR c ⟨pb, B⟩ x).P h) (hF : ∀ j, on ≤ j → j ≤ 1 → t2 a b j = []) (hd : deny = true ∨ (x.st.n : Int) = c.limit) (hon : on ≤ 1)
    (h0 : ∀ h', Stp h h' (plR c ⟨pb, B⟩ x) (plR c ⟨pb, B⟩ x) → K (.tuple #[.int .u64 0, .bool false, .int .i64 2]) h') :
    CallV Try.prog w₀ F.region_Pool_Need [.pointer (some ⟨pb, 0, none⟩), .int .i64 (on : Int), .bool deny] h K := by
  refine needP (Q := ⟨pb, B⟩) W H (fun hb => absurd hb (by omega)) (fun o2 eo ho2 j' p' l' h1 h2 hF' hi' x' h' W' M S => ?_) (fun o2 eo ho2 hall _ => h0) fun o2 eo ho2 hall hd1 hd2 => ?_
  · have := hF j' (by omega) (by omega)
    rw [hF'] at this; cases this
  · rcases hd with e | e
    · rw [hd1] at e; cases e
    · omega

theorem needG {on : Nat} (W : WI c x (t2 a b) L) (ho : x.m.o = 1) (H : (plR c ⟨pb, B⟩ x).P h) (hF : ∀ j, on ≤ j → j ≤ 1 → t2 a b j = []) (hd : (x.st.n : Int) < c.limit) (hon : on ≤ 1)
    (h0 : ∀ x' h' B', WI c x' (aCut x.m.n on (fset (t2 a b) 1 []) (1 - on)) ((x.m.n, on) :: L) → x'.m.o = 1 → x'.st.n = x.st.n + 1 → x'.m.n = x.m.n + 2 → Stp h h' (plR c ⟨pb, B⟩ x) (plR c ⟨pb, B'⟩ x') → K (.tuple #[.int .u64 (adr c x.m.n), .bool true, .int .i64 0]) h') :
    CallV Try.prog w₀ F.region_Pool_Need [.pointer (some ⟨pb, 0, none⟩), .int .i64 (on : Int), .bool false] h K := by
  refine needP (Q := ⟨pb, B⟩) W H (fun hb => absurd hb (by omega)) (fun o2 eo ho2 j' p' l' h1 h2 hF' hi' x' h' W' M S => ?_) (fun o2 eo ho2 hall hor => ?_) fun o2 eo ho2 hall hd1 hd2 x' h' Q' eq _ W' o' n' s' _ S => ?_
  · have := hF j' (by omega) (by omega)
    rw [hF'] at this; cases this
  · rcases hor with e | e
    · cases e
    · omega
  · have eo : o2 = on := by omega
    subst eo
    obtain ⟨pb', B'⟩ := Q'
    have eq : pb' = pb := eq
    subst eq
    rw [ho] at W'
    exact h0 x' h' B' W' (by rw [o', ho]) s' (by rw [n', ho]) S

theorem trimT (W : WI c x (t2 a b) L) (ho : x.m.o = 1) (H : (plR c ⟨pb, B⟩ x).P h) {r r' : Nat} (a' b' : List Nat) (hr : x.st.n = r) (h1 : (trimF 1 r (t2 a b)).1 = r') (h2 : (trimF 1 r (t2 a b)).2 0 = a') (h3 : (trimF 1 r (t2 a b)).2 1 = b')
    (h0 : ∀ x' h' B', WI c x' (t2 a' b') L → x'.m.o = 1 → x'.st.n = r' → Stp h h' (plR c ⟨pb, B⟩ x) (plR c ⟨pb, B'⟩ x') → K (.int .i64 ((r - r' : Nat) : Int)) h') :
    CallV Try.prog w₀ F.region_Pool_Trim [.pointer (some ⟨pb, 0, none⟩)] h K := by
  refine trimP (Q := ⟨pb, B⟩) W H fun x' fl' Q' h' eq _ ht W' o' _ _ S => ?_
  obtain ⟨pb', B'⟩ := Q'
  have eq : pb' = pb := eq
  subst eq
  rw [ho, hr] at ht
  have e1 : x'.st.n = r' := by rw [← h1, ht]
  have e2 : fl' = (trimF 1 r (t2 a b)).2 := by rw [ht]
  have o1 : x'.m.o = 1 := by rw [o', ho]
  rw [e2] at W'
  have := h0 x' h' B' (W'.t2 o1 a' b' h2 h3) o1 e1 S
  rw [hr, e1]
  exact this
end

theorem adr6 : adr C6 0 = 65536 ∧ adr C6 1 = 69632 ∧ adr C6 2 = 73728 := by decide

set_option maxHeartbeats 4000000 in
theorem RegionKnown_law {w : World} : CallV Try.prog w F.croftlaw6_RegionKnown [] w.heap fun v h' => v = .bool true ∧ Upd NoB w.heap h' := by
  have hfin : ∀ h', Upd NoB w.heap h' → (fun (r : Value) (h' : Heap) => r = Value.bool true ∧ Upd NoB w.heap h') (.bool true) h' := fun h' u => ⟨rfl, u⟩
  generalize (fun (r : Value) (h' : Heap) => r = Value.bool true ∧ Upd NoB w.heap h') = K at hfin ⊢
  refine croftlaw6_RegionKnown.call ?_
  unfold croftlaw6_RegionKnown.vc
  obtain ⟨A0, A1, A2⟩ := adr6
  have U2 : U64 (adr C6 2) := by rw [A2]; unfold U64; omega
  refine awake6_ok fun h1 u1 => ⟨_, rfl, iF rfl ?_⟩
  have N2 := box3 h1 (.int .u64 0) (.int .i64 0) (.int .i64 0) T.T_api_Config
  generalize Array.push h1 (.cells #[.int .u64 0, .int .i64 0, .int .i64 0] T.T_api_Config) = h2 at N2 ⊢
  obtain ⟨cb, ecb⟩ : ∃ cb, cb = Array.size h1 := ⟨_, rfl⟩
  rw [← ecb] at N2 ⊢
  have I2 := ((Hold.nil w.heap).quiet u1).new N2
  obtain ⟨w3, S3⟩ := assign3 (I2.at 0) (.int .u64 65536) (.int .i64 2) (.int .i64 1)
  have I3 := I2.step 0 S3
  refine ⟨w3, ?_⟩
  generalize setCs h2 ⟨cb, 0, none⟩ 0 [.int .u64 65536, .int .i64 2, .int .i64 1] = h3 at I3 ⊢
  obtain ⟨k0, k1, k2⟩ := f3_cells (I3.at 0)
  refine ⟨_, k0, _, k1, _, k2, ?_⟩
  refine region_New_ok (by unfold U64; omega) (fun hb => absurd C6_good hb) fun g h4 Q N4 => ⟨_, _, rfl, iF rfl ?_⟩
  have I4 := I3.new N4
  generalize hpb : Q.pb = pb
  obtain ⟨pb0, B0⟩ := Q
  have hpb : pb0 = pb := hpb
  subst hpb
  have W0 := wi0 g
  have mo : (BU0 ⟨65536, 2, 1⟩).m.o = 1 := bu0_o g
  have mn : (BU0 ⟨65536, 2, 1⟩).m.n = 0 := rfl
  have sn : (BU0 ⟨65536, 2, 1⟩).st.n = 0 := rfl
  generalize BU0 ⟨65536, 2, 1⟩ = x0 at I4 W0 mo mn sn
  have I4 : Hold w.heap h4 [plR C6 ⟨pb0, B0⟩ x0, blkR cb 3 (f3 (.int .u64 65536) (.int .i64 2) (.int .i64 1))] := I4
  have W0 : WI C6 x0 (t2 [] []) [] := WI.t2 (c := C6) W0 mo [] [] rfl rfl
  -- refused
  refine needP (Q := ⟨pb0, B0⟩) W0 (I4.at 0) (fun _ h5 S5 => ⟨_, _, _, rfl, ?_⟩) (fun on eo ho => absurd ho (by omega)) (fun on eo ho => absurd ho (by omega)) fun on eo ho => absurd ho (by omega)
  have I5 := I4.step 0 S5
  refine needP (Q := ⟨pb0, B0⟩) W0 (I5.at 0) (fun _ h6 S6 => ⟨_, _, _, rfl, ?_⟩) (fun on eo ho => absurd eo (by omega)) (fun on eo ho => absurd eo (by omega)) fun on eo ho => absurd eo (by omega)
  have I6 := I5.step 0 S6
  refine needM (on := 0) (B := B0) W0 mo (I6.at 0) (fun j _ hj => by have : j = 0 ∨ j = 1 := (by omega); rcases this with rfl | rfl <;> rfl) (.inl rfl) (by omega) fun h7 S7 => ⟨_, _, _, rfl, fun J8 hJ8 => pF rfl (hJ8 _ _ fun J9 hJ9 => pF rfl (hJ9 _ _ fun J10 hJ10 => pF rfl ?_))⟩
  have I7 := I6.step 0 S7
  refine trimT (B := B0) W0 mo (I7.at 0) (r := 0) (r' := 0) [] [] sn (by decide) (by decide) (by decide) fun x1 h8 B1 W1 o1 s1 S8 => ⟨_, rfl, hJ10 _ _ (iF rfl ?_)⟩
  have I8 := I7.step 0 S8
  have n1 : x1.m.n = 0 := by rw [W1.e, s1, Nat.zero_mul]
  -- a region comes
  refine needG (on := 0) (B := B1) W1 o1 (I8.at 0) (fun j _ hj => by have : j = 0 ∨ j = 1 := (by omega); rcases this with rfl | rfl <;> rfl) (by rw [s1]; decide) (by omega) fun x2 h9 B2 W2 o2 s2 n2 S9 => ⟨_, _, _, rfl, ?_⟩
  have I9 := I8.step 0 S9
  rw [n1] at W2 n2 ⊢
  have W2 := W2.t2 o2 [1] [] (by decide) (by decide)
  refine needT (on := 0) (j := 0) (p := 1) (l := []) (B := B2) W2 o2 (I9.at 0) (by omega) (by omega) rfl (fun i _ hi => by omega) fun x3 h10 W3 o3 s3 n3 S10 => ⟨_, _, _, rfl, ?_⟩
  have I10 := I9.step 0 S10
  have W3 := W3.t2 o3 [] [] (by decide) (by decide)
  refine needM (on := 0) (B := B2) W3 o3 (I10.at 0) (fun j _ hj => by have : j = 0 ∨ j = 1 := (by omega); rcases this with rfl | rfl <;> rfl) (.inl rfl) (by omega) fun h11 S11 => ⟨_, _, _, rfl, ?_⟩
  have I11 := I10.step 0 S11
  refine fun J14 hJ14 => pF (by decide) (hJ14 _ _ fun J15 hJ15 => pF rfl (hJ15 _ _ fun J16 hJ16 => pF rfl (hJ16 _ _ fun J17 hJ17 => pF (by decide) (hJ17 _ _ fun J18 hJ18 => pF rfl (hJ18 _ _ fun J19 hJ19 => pF rfl (hJ19 _ _ (iF rfl ?_)))))))
  have n3' : x3.m.n = 2 := by rw [n3, n2]
  have s3' : x3.st.n = 1 := by rw [s3, s2, s1]
  -- another
  refine needG (on := 1) (B := B2) W3 o3 (I11.at 0) (fun j hj0 hj => by have : j = 1 := (by omega); subst this; rfl) (by rw [s3']; decide) (by omega) fun x4 h12 B4 W4 o4 s4 n4 S12 => ⟨_, _, _, rfl, ?_⟩
  have I12 := I11.step 0 S12
  rw [n3'] at W4 n4 ⊢
  have s4' : x4.st.n = 2 := by rw [s4, s3']
  have W4 := W4.t2 o4 [] [] (by decide) (by decide)
  refine needM (on := 1) (B := B4) W4 o4 (I12.at 0) (fun j hj0 hj => by have : j = 1 := (by omega); subst this; rfl) (.inr (by rw [s4']; rfl)) (by omega) fun h13 S13 => ⟨_, _, _, rfl, ?_⟩
  have I13 := I12.step 0 S13
  refine fun J22 hJ22 => pF (by decide) (hJ22 _ _ fun J23 hJ23 => pF rfl (hJ23 _ _ fun J24 hJ24 => pF rfl (hJ24 _ _ fun J25 hJ25 => pF rfl ?_)))
  refine givePN (Q := ⟨pb0, B4⟩) W4 (I13.at 0) (by unfold U64; omega) (fun z hz => ?_) fun h14 S14 => ⟨_, rfl, hJ25 _ _ fun J26 hJ26 => pF rfl ?_⟩
  · have : z = (2, 1) ∨ z = (1, 0) ∨ z = (0, 0) := by simpa using hz
    rcases this with rfl | rfl | rfl <;> decide
  have I14 := I13.step 0 S14
  have hperm : ([(2, 1), (1, 0), (0, 0)] : List PBk).Perm ((0, 0) :: [(2, 1), (1, 0)]) := List.perm_append_comm (l₁ := [(2, 1), (1, 0)]) (l₂ := [(0, 0)])
  have G1 := giveP (w₀ := w) (h := h14) (K := fun v134 h134 => ∃ r134 : Int, v134 = .int .i64 r134 ∧ J26 (r134 != 0) h134) (Q := ⟨pb0, B4⟩) (p := 0) (k := 0) (L' := [(2, 1), (1, 0)]) W4 (I14.at 0) hperm fun x5 h15 W5 M5 S15 => ⟨_, rfl, hJ26 _ _ fun J27 hJ27 => pF rfl ?_⟩
  · rw [A0] at G1; exact G1
  have I15 := I14.step 0 S15
  have o5 : x5.m.o = 1 := by rw [M5.o, o4]
  rw [o4] at W5
  have W5 := W5.t2 o5 [0] [] (by decide) (by decide)
  refine trimT (B := B4) W5 o5 (I15.at 0) (r := 2) (r' := 2) [0] [] (by rw [M5.k.1, s4']) (by decide) (by decide) (by decide) fun x6 h16 B6 W6 o6 s6 S16 => ⟨_, rfl, hJ27 _ _ fun J28 hJ28 => pF rfl ?_⟩
  have I16 := I15.step 0 S16
  have G2 := giveP (w₀ := w) (h := h16) (K := fun v144 h144 => ∃ r144 : Int, v144 = .int .i64 r144 ∧ J28 (r144 != 0) h144) (Q := ⟨pb0, B6⟩) (p := 2) (k := 1) (L' := [(1, 0)]) W6 (I16.at 0) (List.Perm.refl _) fun x7 h17 W7 M7 S17 => ⟨_, rfl, hJ28 _ _ fun J29 hJ29 => pF rfl ?_⟩
  · rw [A2] at G2; exact G2
  have I17 := I16.step 0 S17
  have o7 : x7.m.o = 1 := by rw [M7.o, o6]
  rw [o6] at W7
  have W7 := W7.t2 o7 [0] [2] (by decide) (by decide)
  refine trimT (B := B6) W7 o7 (I17.at 0) (r := 2) (r' := 1) [0] [] (by rw [M7.k.1, s6]) (by decide) (by decide) (by decide) fun x8 h18 B8 W8 o8 s8 S18 => ⟨_, rfl, hJ29 _ _ fun J30 hJ30 => pF rfl ⟨_, rfl, ?_⟩⟩
  have I18 := I17.step 0 S18
  have P8 : (plR C6 ⟨pb0, B8⟩ x8).P h18 := I18.at 0
  have n8 : x8.m.n = 2 := by rw [W8.e, s8, o8]
  refine ground_Space_ok (Q := ⟨pb0, B8⟩) P8 ⟨_, rfl, mem_Regions_ok (bu_sp (pl_bu P8)) ⟨_, rfl, hJ30 _ _ fun J31 hJ31 => pF (by rw [s8]; rfl) ⟨_, rfl, ?_⟩⟩⟩
  refine ground_Map_ok (Q := ⟨pb0, B8⟩) P8 ⟨_, rfl, pm_Pages_ok (bu_map (pl_bu P8)) ⟨_, rfl, hJ31 _ _ (iF (by rw [n8]; rfl) ?_)⟩⟩
  refine needT (on := 0) (j := 0) (p := 0) (l := []) (B := B8) W8 o8 P8 (by omega) (by omega) rfl (fun i _ hi => by omega) fun x9 h19 W9 o9 s9 n9 S19 => ⟨_, _, _, rfl, _, rfl, ?_⟩
  have I19 := I18.step 0 S19
  have W9 := W9.t2 o9 [] [] (by decide) (by decide)
  have P9 : (plR C6 ⟨pb0, B8⟩ x9).P h19 := I19.at 0
  refine ground_Buddy_ok (Q := ⟨pb0, B8⟩) P9 ⟨_, rfl, headsB W9 (pl_bu P9) fun h20 p20 c20 N20 => ⟨_, _, _, rfl, ?_⟩⟩
  have hh : hdL C6 (t2 [] []) x9.m.o = [0, 0] := by rw [o9]; decide
  rw [hh] at N20 ⊢
  have I20 := I19.new N20
  obtain ⟨b20, e20, v0⟩ := sl_cell (N20.p) (i := 0) (by decide)
  obtain ⟨b20', e20', v1⟩ := sl_cell (N20.p) (i := 1) (by decide)
  rw [e20] at e20'
  cases e20'
  refine fun J35 hJ35 => pF (by decide) (hJ35 _ _ fun J36 hJ36 => pF rfl (hJ36 _ _ fun J37 hJ37 => pF rfl (hJ37 _ _ fun J38 hJ38 => pF rfl ⟨_, e20, by omega, by decide, _, v0, hJ38 _ _ fun J39 hJ39 => pF (by decide) ⟨_, e20, by omega, by decide, _, v1, hJ39 _ _ fun J40 hJ40 => pF (by decide) ?_⟩⟩)))
  have P9' : (plR C6 ⟨pb0, B8⟩ x9).P h20 := I20.at 1
  have G3 := giveP (w₀ := w) (h := h20) (K := fun v144 h144 => ∃ r144 : Int, v144 = .int .i64 r144 ∧ J40 (r144 != 0) h144) (Q := ⟨pb0, B8⟩) (p := 0) (k := 0) (L' := [(1, 0)]) W9 P9' (List.Perm.refl _) fun xa h21 Wa Ma Sa => ⟨_, rfl, hJ40 _ _ fun J41 hJ41 => pF rfl ?_⟩
  · rw [A0] at G3; exact G3
  have I21 := I20.step 1 Sa
  have oa : xa.m.o = 1 := by rw [Ma.o, o9]
  rw [o9] at Wa
  have Wa := Wa.t2 oa [0] [] (by decide) (by decide)
  have Pa : (plR C6 ⟨pb0, B8⟩ xa).P h21 := I21.at 1
  have G4 := giveP (w₀ := w) (h := h21) (K := fun v144 h144 => ∃ r144 : Int, v144 = .int .i64 r144 ∧ J41 (r144 != 0) h144) (Q := ⟨pb0, B8⟩) (p := 1) (k := 0) (L' := []) Wa Pa (List.Perm.refl _) fun xb h22 Wb Mb Sb => ⟨_, rfl, hJ41 _ _ fun J42 hJ42 => pF rfl ?_⟩
  · rw [A1] at G4; exact G4
  have I22 := I21.step 1 Sb
  have ob : xb.m.o = 1 := by rw [Mb.o, oa]
  rw [oa] at Wb
  have Wb := Wb.t2 ob [] [0] (by decide) (by decide)
  have Pb : (plR C6 ⟨pb0, B8⟩ xb).P h22 := I22.at 1
  refine trimT (B := B8) Wb ob Pb (r := 1) (r' := 0) [] [] (by rw [Mb.k.1, Ma.k.1, s9, s8]) (by decide) (by decide) (by decide) fun xd h23 Bd Wd od sd Sd => ⟨_, rfl, hJ42 _ _ fun J43 hJ43 => pF rfl ⟨_, rfl, ?_⟩⟩
  have I23 := I22.step 1 Sd
  have Pd : (plR C6 ⟨pb0, Bd⟩ xd).P h23 := I23.at 1
  refine ground_Space_ok (Q := ⟨pb0, Bd⟩) Pd ⟨_, rfl, mem_End_ok (bu_sp (pl_bu Pd)) ⟨_, rfl, hJ43 _ _ (iF (by rw [sd]; rfl) ?_)⟩⟩
  -- data that are none
  have I23 : Hold w.heap h23 [blkR cb 3 (f3 (.int .u64 65536) (.int .i64 2) (.int .i64 1))] := I23.sub (.cons _ (.cons _ (.cons_cons _ .slnil)))
  obtain ⟨k0, k1, k2⟩ := f3_cells (I23.at 0)
  refine ⟨_, k0, _, k1, _, k2, by decide, Int.le_refl _, by decide, ?_⟩
  have N24 := sl_make h23 [.int .u8 0] T.T_uint8 8191 8191 (Nat.le_refl _)
  rw [show Int.toNat (8191 : Int) = 8191 from rfl]
  generalize h23.push (.cells (List.toArray (zrow [.int .u8 0] 8191)) T.T_uint8) = h24 at N24 ⊢
  have I24 := I23.new N24
  obtain ⟨k0, k1, k2⟩ := f3_cells (I24.at 1)
  have zr : ∀ {hz : Heap} {z : Nat}, (slR (some ⟨z, 0, none⟩) 8191 8191 1 fun i => ([.int .u8 0] : List Value).getD (i % 1) undef).P hz → Row hz (some ⟨z, 0, none⟩) 8191 fun i => .int .u8 ((fun _ => 0 : Nat → Int) i) := fun H => by
    have := sl_row H
    rw [Nat.mul_one] at this
    refine this.congr fun i hi => ?_
    rw [Nat.mod_one]; rfl
  refine ⟨k0, k1, k2, region_Open_ok (g := fun _ => 0) (pg := fun _ _ => 0) (wp := fun _ => none) (wn := fun _ => 0) (wc := fun _ => 0) (ws := fun _ _ => 0) (hd := fun _ => 0) (by unfold U64; omega) (by decide) (Nat.le_refl _) (by decide) (by decide) (by decide)
    (zr (I24.at 0)) (fun i _ => ⟨Int.le_refl _, by decide⟩) (.inl rfl) ⟨.inl rfl, fun k hk => absurd hk (Nat.not_lt_zero _), fun k j hk => absurd hk (Nat.not_lt_zero _)⟩ (.inl rfl) (fun i hi => absurd hi (Nat.not_lt_zero _))
    (fun hb => absurd C6_good hb) (fun _ _ h25 u25 => ⟨_, _, rfl, ?_⟩) fun _ hx => absurd hx.nb (by decide)⟩
  have I25 := I24.quiet u25
  have I25 : Hold w.heap h25 [blkR cb 3 (f3 (.int .u64 65536) (.int .i64 2) (.int .i64 1))] := I25.drop
  have B25 : Blk h25 cb 3 (f3 (.int .u64 65536) (.int .i64 2) (.int .i64 1)) := I25.at 0
  have S26 := Stp.set B25 0 (.int .u64 1) (g := f3 (.int .u64 1) (.int .i64 2) (.int .i64 1)) fun j hj => by
    have : j = 0 ∨ j = 1 ∨ j = 2 := by omega
    rcases this with rfl | rfl | rfl <;> rfl
  have I26 := I25.step 0 S26
  refine ⟨B25.wr (by omega), ?_⟩
  generalize setC h25 ⟨cb, 0, none⟩ (.int .u64 1) = h26 at I26 ⊢
  obtain ⟨k0, k1, k2⟩ := f3_cells (I26.at 0)
  refine ⟨_, k0, _, k1, _, k2, by decide, Int.le_refl _, by decide, ?_⟩
  have N27 := sl_make h26 [.int .u8 0] T.T_uint8 8191 8191 (Nat.le_refl _)
  generalize h26.push (.cells (List.toArray (zrow [.int .u8 0] 8191)) T.T_uint8) = h27 at N27 ⊢
  have I27 := I26.new N27
  obtain ⟨k0, k1, k2⟩ := f3_cells (I27.at 1)
  have nog : ¬ Cfg.Good ⟨1, 2, 1⟩ := fun hg => by rw [good_iff] at hg; revert hg; decide
  refine ⟨k0, k1, k2, region_Open_ok (g := fun _ => 0) (pg := fun _ _ => 0) (wp := fun _ => none) (wn := fun _ => 0) (wc := fun _ => 0) (ws := fun _ _ => 0) (hd := fun _ => 0) (by unfold U64; omega) (by decide) (Nat.le_refl _) (by decide) (by decide) (by decide)
    (zr (I27.at 0)) (fun i _ => ⟨Int.le_refl _, by decide⟩) (.inl rfl) ⟨.inl rfl, fun k hk => absurd hk (Nat.not_lt_zero _), fun k j hk => absurd hk (Nat.not_lt_zero _)⟩ (.inl rfl) (fun i hi => absurd hi (Nat.not_lt_zero _))
    (fun _ h28 u28 => ⟨_, _, rfl, fun J49 hJ49 => qT rfl (hJ49 _ _ (hfin _ ?_))⟩) (fun hb => absurd hb nog) fun hb => absurd hb nog⟩
  exact (I27.quiet u28).u
end Go.Proofs.Ytippbfnhgooepaa
