/- croftlaw6: RegionGone. No condition. -/
import Derived.Test.YtippbfnhgooepaaC3
import Derived.Test.YtippbfnhgooepaaBV
import Derived.Test.YtippbfnhgooepaaGcroftlaw6RegionGone
set_option linter.unusedSimpArgs false
set_option linter.unusedVariables false
namespace Go.Proofs.Ytippbfnhgooepaa
open Go.V Classical

theorem small_good {l o : Nat} (hl : l ≤ 3) (ho : o ≤ 3) : Cfg.Good ⟨1048576, (l : Int) + 1, (o : Int)⟩ := by
  have h1 : l = 0 ∨ l = 1 ∨ l = 2 ∨ l = 3 := by omega
  have h2 : o = 0 ∨ o = 1 ∨ o = 2 ∨ o = 3 := by omega
  rcases h1 with rfl | rfl | rfl | rfl <;> rcases h2 with rfl | rfl | rfl | rfl <;> exact good_iff.2 (by decide)

section
variable {w₀ : World} {h : Heap} {K : Value → Heap → Prop}

theorem abs4 (z : Int) : ∃ l : Nat, l ≤ 3 ∧ ((Int.tmod z 4 < 0 ∧ IntKind.wrap .i64 (0 - Int.tmod z 4) = l) ∨ (¬ Int.tmod z 4 < 0 ∧ Int.tmod z 4 = l)) := by
  have h1 : -4 < Int.tmod z 4 ∧ Int.tmod z 4 < 4 := by
    have := Int.tmod_lt_of_pos z (show (0 : Int) < 4 by decide)
    have h2 := Int.lt_tmod_of_pos z (show (0 : Int) < 4 by decide)
    omega
  refine ⟨(Int.tmod z 4).natAbs, by omega, ?_⟩
  by_cases h : Int.tmod z 4 < 0
  · exact .inl ⟨h, by rw [IntKind.wrap_i64]; omega⟩
  · exact .inr ⟨h, by omega⟩

theorem small_ok {p q : Int} (hK : ∀ l o : Nat, l ≤ 3 → o ≤ 3 → ∀ h', Upd NoB h h' → K (.agg #[.int .u64 1048576, .int .i64 ((l : Int) + 1), .int .i64 (o : Int)]) h') :
    CallV Try.prog w₀ F.croftlaw6_small [.int .i64 p, .int .i64 q] h K := by
  refine croftlaw6_small.call ?_
  unfold croftlaw6_small.vc
  have N1 := box3 h (.int .u64 0) (.int .i64 0) (.int .i64 0) T.T_api_Config
  generalize Array.push h (.cells #[.int .u64 0, .int .i64 0, .int .i64 0] T.T_api_Config) = h1 at N1 ⊢
  have I1 := (Hold.nil h).new N1
  obtain ⟨l, hl, hpl⟩ := abs4 p
  obtain ⟨o, ho, hqo⟩ := abs4 q
  refine ⟨by decide, fun J2 hJ2 => ?_⟩
  have m2 : J2 [.int .i64 q, .pointer (some ⟨h.size, 0, none⟩), .int .i64 (l : Int)] h1 := by
    refine hJ2 _ _ _ _ ⟨by decide, fun J3 hJ3 => ?_⟩
    have m3 : J3 [.pointer (some ⟨h.size, 0, none⟩), .int .i64 (l : Int), .int .i64 (o : Int)] h1 := by
      have e1 : IntKind.wrap .i64 ((l : Int) + 1) = (l : Int) + 1 := by rw [IntKind.wrap_i64]; omega
      refine hJ3 _ _ _ _ ?_
      rw [e1]
      obtain ⟨w2, S2⟩ := assign3 (I1.at 0) (.int .u64 1048576) (.int .i64 ((l : Int) + 1)) (.int .i64 (o : Int))
      have I2 := I1.step 0 S2
      obtain ⟨k0, k1, k2⟩ := f3_cells (I2.at 0)
      exact ⟨w2, _, k0, _, k1, _, k2, hK l o hl ho _ I2.u⟩
    rcases hqo with ⟨a1, a2⟩ | ⟨a1, a2⟩
    · exact iT (decide_eq_true a1) (by rw [a2]; exact m3)
    · exact iF (decide_eq_false a1) (by rw [a2]; exact m3)
  rcases hpl with ⟨a1, a2⟩ | ⟨a1, a2⟩
  · exact iT (decide_eq_true a1) (by rw [a2]; exact m2)
  · exact iF (decide_eq_false a1) (by rw [a2]; exact m2)
end

section
variable {c : Cfg} {x : BU} {fl : Nat → List Nat} {k : Nat}

theorem reg_free (W : WI c x fl []) {i : Nat} (hi : i < x.st.n) : i * 2 ^ x.m.o ∈ fl x.m.o := by
  have h0 := Nat.two_pow_pos x.m.o
  have hlt : i * 2 ^ x.m.o < x.m.n := by rw [W.e]; exact Nat.mul_lt_mul_of_pos_right hi h0
  obtain ⟨p, j, h1, h2, h3, h4, h5⟩ := find_free (s := i * 2 ^ x.m.o) W.til W.rep.nb (Nat.le_refl _) (Nat.mul_mod_left _ _) (stretch W (Nat.le_refl _) hlt) (fun b hb => by cases hb)
  have : j = x.m.o := by omega
  subst this
  have : p = i * 2 ^ x.m.o := by omega
  rw [← this]; exact h3

theorem low_free (W : WI c x fl []) (hk : k < x.m.o) : fl k = [] := by
  rcases hl : fl k with _ | ⟨p, t⟩
  · rfl
  exfalso
  have hp : p ∈ fl k := by rw [hl]; exact List.mem_cons_self ..
  have h0 := Nat.two_pow_pos x.m.o
  have al := W.rep.al (Nat.le_of_lt hk) hp
  have hr : p / 2 ^ x.m.o < x.st.n := by
    have h1 := al.2.2
    rw [W.e] at h1
    exact Nat.div_lt_of_lt_mul (by rw [Nat.mul_comm]; exact h1)
  have hm := reg_free W hr
  have hcov : Cov (p / 2 ^ x.m.o * 2 ^ x.m.o, x.m.o) p := by
    have := Nat.div_add_mod p (2 ^ x.m.o)
    have h2 := Nat.mod_lt p h0
    rw [Nat.mul_comm] at this
    exact ⟨by simp only []; omega, by simp only []; omega⟩
  have e := W.til.uniq (mem_blks.2 ⟨Nat.le_refl _, hm⟩) (mem_blks.2 ⟨Nat.le_of_lt hk, hp⟩) hcov cov_self
  have : x.m.o = k := congrArg Prod.snd e
  omega

theorem trimF_stop (O : Nat) : ∀ (r : Nat) (fl : Nat → List Nat), (trimF O r fl).1 = 0 ∨ ((trimF O r fl).1 - 1) * 2 ^ O ∉ (trimF O r fl).2 O
  | 0, fl => .inl rfl
  | r + 1, fl => by
    unfold trimF
    split
    · exact trimF_stop O r _
    · rename_i h; exact .inr h
end

/-- What is left of some. -/
def remL (bs : List PBk) (D : Nat → Bool) : List PBk := ((List.range bs.length).filter fun i => !D i).map fun i => bs.getD i (0, 0)

theorem rem_one {bs : List PBk} {D : Nat → Bool} {i : Nat} (hi : i < bs.length) (hD : D i = false) : (remL bs D).Perm (bs.getD i (0, 0) :: remL bs fun j => if j = i then true else D j) := by
  have n1 : ((List.range bs.length).filter fun j => !D j).Nodup := (List.Pairwise.filter _ List.nodup_range)
  have n2 : (i :: (List.range bs.length).filter fun j => !(if j = i then true else D j)).Nodup := List.nodup_cons.2 ⟨fun h => by
    have := (List.mem_filter.1 h).2
    simp at this, (List.Pairwise.filter _ List.nodup_range)⟩
  have h := (List.perm_ext_iff_of_nodup n1 n2).2 fun a => by
    rw [List.mem_cons, List.mem_filter, List.mem_filter, List.mem_range]
    by_cases e : a = i
    · subst e; simp [hi, hD]
    · simp [e]
  exact h.map _

theorem rem_all (bs : List PBk) : remL bs (fun _ => false) = bs := by
  unfold remL
  have : (List.range bs.length).filter (fun i => !false) = List.range bs.length := List.filter_eq_self.2 fun _ _ => rfl
  rw [this]
  refine List.ext_getElem (by simp) fun i h1 h2 => ?_
  simp
  rw [List.getElem?_eq_getElem h2]; rfl

theorem rem_nil {bs : List PBk} {D : Nat → Bool} (h : ∀ i, i < bs.length → D i = true) : remL bs D = [] := by
  unfold remL
  rw [List.filter_eq_nil_iff.2 fun a ha => by simp [h a (List.mem_range.1 ha)]]
  rfl

def iL (xs : List Int) : Nat → Value := fun i => .int .i64 (xs.getD i 0)
abbrev atL (c : Cfg) (bs : List PBk) : List Int := bs.map fun b => adr c b.1
abbrev koL (bs : List PBk) : List Int := bs.map fun b => (b.2 : Int)

theorem uL_sn {xs : List Int} {v : Int} {i : Nat} (hi : i < (xs.length + 1) * 1) : (if i = xs.length then Value.int .u64 v else uL xs i) = uL (xs ++ [v]) i := by
  unfold uL
  split
  · rename_i e; subst e; simp
  · rw [List.getD_eq_getElem?_getD, List.getD_eq_getElem?_getD, List.getElem?_append_left (by omega)]
theorem iL_sn {xs : List Int} {v : Int} {i : Nat} (hi : i < (xs.length + 1) * 1) : (if i = xs.length then Value.int .i64 v else iL xs i) = iL (xs ++ [v]) i := by
  unfold iL
  split
  · rename_i e; subst e; simp
  · rw [List.getD_eq_getElem?_getD, List.getD_eq_getElem?_getD, List.getElem?_append_left (by omega)]

theorem RegionGone_law {w : World} {l0 o0 fr : Int} {p : Option Addr} {n cp : Nat} (hl0 : (Lit.int .i64 l0).wf = true) (ho0 : (Lit.int .i64 o0).wf = true) (hs : SRow w.heap .i64 p n cp) (hfr : (Lit.int .i64 fr).wf = true) :
    CallV Try.prog w F.croftlaw6_RegionGone [.int .i64 l0, .int .i64 o0, .slice p n cp, .int .i64 fr] w.heap fun v h' => v = .bool true ∧ Upd NoB w.heap h' := by
  obtain ⟨f, hn, hc, hr, hw⟩ := hs
  have hfin : ∀ h', Upd NoB w.heap h' → (fun (r : Value) (h' : Heap) => r = Value.bool true ∧ Upd NoB w.heap h') (.bool true) h' := fun h' u => ⟨rfl, u⟩
  generalize (fun (r : Value) (h' : Heap) => r = Value.bool true ∧ Upd NoB w.heap h') = K at hfin ⊢
  refine croftlaw6_RegionGone.call ?_
  unfold croftlaw6_RegionGone.vc
  refine awake6_ok fun h1 u1 => ⟨_, rfl, iF rfl ?_⟩
  have I1 := (Hold.nil w.heap).quiet u1
  refine small_ok fun ln on hln hon h2 u2 => ⟨_, _, _, rfl, ?_⟩
  have I2 := I1.quiet u2
  have gd := small_good hln hon
  have N3 := box3 h2 (.int .u64 0) (.int .i64 0) (.int .i64 0) T.T_api_Config
  generalize Array.push h2 (.cells #[.int .u64 0, .int .i64 0, .int .i64 0] T.T_api_Config) = h3 at N3 ⊢
  obtain ⟨cb, ecb⟩ : ∃ cb, cb = Array.size h2 := ⟨_, rfl⟩
  rw [← ecb] at N3 ⊢
  have I3 := I2.new N3
  obtain ⟨w4, S4⟩ := assign3 (I3.at 0) (.int .u64 1048576) (.int .i64 ((ln : Int) + 1)) (.int .i64 (on : Int))
  have I4 := I3.step 0 S4
  refine ⟨w4, ?_⟩
  generalize setCs h3 ⟨cb, 0, none⟩ 0 [.int .u64 1048576, .int .i64 ((ln : Int) + 1), .int .i64 (on : Int)] = h4 at I4 ⊢
  obtain ⟨k0, k1, k2⟩ := f3_cells (I4.at 0)
  refine ⟨_, k0, _, k1, _, k2, ?_⟩
  refine region_New_ok (by unfold U64; omega) (fun hb => absurd gd hb) fun g h5 Q N5 => ⟨_, _, rfl, iF rfl ?_⟩
  have I5 := I4.new N5
  generalize hcc : (⟨1048576, (ln : Int) + 1, (on : Int)⟩ : Cfg) = c at N5 I5 g
  have hco : c.order = on := by rw [← hcc]
  have W0 := wi0 g
  have mo : (BU0 c).m.o = on := by rw [bu0_o g, hco]; simp
  generalize BU0 c = x0 at I5 W0 mo
  generalize hpb : Q.pb = pb
  intro J6 hJ6 L33 hL33
  have hcfg : ∀ {hx : Heap} {X : Res} {rs : List Res}, Hold w.heap hx (X :: blkR cb 3 (f3 (.int .u64 1048576) (.int .i64 ((ln : Int) + 1)) (.int .i64 (on : Int))) :: rs) → cellAt hx ((⟨cb, 0, none⟩ : Addr).add 2) = some (.int .i64 (on : Int)) := fun I => (f3_cells (I.at 1)).2.2
  have gone : ∀ (bs : List PBk) (hx : Heap) (Q : PL) (x : BU) (fl : Nat → List Nat) (ap kp : Option Addr) (ac kc : Nat), bs.length ≤ 1024 → Q.pb = pb → WI c x fl bs → x.m.o = on →
      Hold w.heap hx [slR ap bs.length ac 1 (uL (atL c bs)), slR kp bs.length kc 1 (iL (koL bs)), plR c Q x, blkR cb 3 (f3 (.int .u64 1048576) (.int .i64 ((ln : Int) + 1)) (.int .i64 (on : Int)))] →
      J6 [.int .i64 fr, .pointer (some ⟨cb, 0, none⟩), .pointer (some ⟨pb, 0, none⟩), .slice ap bs.length ac, .slice kp bs.length kc] hx := by
    intro bs hx Q x fl ap kp ac kc hbs hq W ox I
    refine hJ6 _ _ _ _ _ _ _ _ _ _ ⟨by decide, fun J7 hJ7 => ?_⟩
    have m7 : ∀ s : Int, J7 [.pointer (some ⟨cb, 0, none⟩), .pointer (some ⟨pb, 0, none⟩), .slice ap bs.length ac, .slice kp bs.length kc, .int .i64 (bs.length : Int), .int .i64 s] hx := by
      intro s
      refine hJ7 _ _ _ _ _ _ _ _ _ _ _ ⟨by omega, Int.le_refl _, by omega, fun J9 hJ9 L25 hL25 => ?_⟩
      have N8 := sl_make hx [.bool false] T.T_bool bs.length bs.length (Nat.le_refl _)
      have N8' : New hx (hx.push (.cells (List.toArray (zrow [.bool false] bs.length)) T.T_bool)) (slR (some ⟨hx.size, 0, none⟩) bs.length bs.length 1 fun i => .bool ((fun _ => false : Nat → Bool) i)) :=
        N8.conv (fun A => sl_congr A fun i hi => by
          show ([.bool false] : List Value).getD (i % 1) undef = _
          rw [Nat.mod_one]; rfl) fun _ e => e
      clear N8
      rw [Int.toNat_natCast]
      generalize hx.push (.cells (List.toArray (zrow [.bool false] bs.length)) T.T_bool) = h8 at N8' ⊢
      obtain ⟨db, edb⟩ : ∃ db, db = hx.size := ⟨_, rfl⟩
      rw [← edb] at N8' ⊢
      have I8 := I.new N8'
      have addq : ∀ (b q : Nat), (⟨b, 0, none⟩ : Addr).add (Int.toNat (q : Int) * 1) = ⟨b, q, none⟩ := fun b q => by simp only [add_mk, Int.toNat_natCast, Nat.mul_one, Nat.zero_add]
      -- all is back
      have fin9 : ∀ (hy : Heap) (y : BU) (fy : Nat → List Nat), WI c y fy [] → y.m.o = on → Hold w.heap hy [plR c Q y, blkR cb 3 (f3 (.int .u64 1048576) (.int .i64 ((ln : Int) + 1)) (.int .i64 (on : Int)))] → J9 [.pointer (some ⟨cb, 0, none⟩), .pointer (some ⟨pb, 0, none⟩)] hy := by
        intro hy y fy Wy oy Iy
        have Py : (plR c Q y).P hy := Iy.at 0
        have ky := hcfg Iy
        refine hJ9 _ _ _ ⟨_, rfl, ?_⟩
        rw [← hq]
        refine ground_Space_ok Py ⟨_, rfl, mem_Regions_ok (bu_sp (pl_bu Py)) ⟨_, rfl, _, rfl, _, ky, ground_Buddy_ok Py ⟨_, rfl, ky, ?_⟩⟩⟩
        have ht := tops Wy
        rw [oy] at ht
        refine freeB Wy (pl_bu Py) (o := on) (by omega) fun h9 p9 c9 S9 => ⟨_, _, _, rfl, iF ?_ ?_⟩
        · rw [List.length_map, ht]; exact eq_b rfl
        have S9' : Stp hy h9 (plR c Q y) (plR c Q y) := pl_lift' Py (S9.conv (fun A => A.1) fun b e => .inl e)
        have I9 := Iy.step 0 S9'
        intro J14 hJ14 L22 hL22
        have trim : ∀ hz, Hold w.heap hz [plR c Q y, blkR cb 3 (f3 (.int .u64 1048576) (.int .i64 ((ln : Int) + 1)) (.int .i64 (on : Int)))] → J14 [.pointer (some ⟨pb, 0, none⟩), .int .i64 (y.st.n : Int)] hz := by
          intro hz Iz
          refine hJ14 _ _ _ ?_
          rw [← hq]
          refine trimP Wy (Iz.at 0) fun z fz Qz h10 eqz _ htz Wz oz hle _ Sz => ⟨_, rfl, fun J16 hJ16 => ?_⟩
          have hz0 : z.st.n = 0 := by
            have hst := trimF_stop y.m.o y.st.n fy
            rw [htz] at hst
            rcases hst with e | e
            · exact e
            · rcases Nat.eq_zero_or_pos z.st.n with h0 | h0
              · exact h0
              · have := reg_free Wz (i := z.st.n - 1) (by omega)
                rw [oz] at this
                exact absurd this e
          have Iz' := Iz.step 0 Sz
          have Pz : (plR c Qz z).P h10 := Iz'.at 0
          rw [hz0, Nat.sub_zero]
          refine qT (beq_self_eq_true _) ⟨_, rfl, ?_⟩
          rw [← eqz]
          refine ground_Space_ok Pz ⟨_, rfl, mem_Regions_ok (bu_sp (pl_bu Pz)) ⟨_, rfl, hJ16 _ _ fun J17 hJ17 => qT (by rw [hz0]; rfl) ⟨_, rfl, ?_⟩⟩⟩
          rw [hq, ← hq, ← eqz]
          refine ground_Map_ok Pz ⟨_, rfl, pm_Pages_ok (bu_map (pl_bu Pz)) ⟨_, rfl, hJ17 _ _ ?_⟩⟩
          have : (((z.m.n : Nat) : Int) == 0) = true := by rw [Wz.e, hz0, Nat.zero_mul]; rfl
          rw [this]
          exact hfin _ Iz'.u
        have low : ∀ (dd i : Nat) (hz : Heap), i + dd = on → Hold w.heap hz [plR c Q y, blkR cb 3 (f3 (.int .u64 1048576) (.int .i64 ((ln : Int) + 1)) (.int .i64 (on : Int)))] → L22 [.pointer (some ⟨cb, 0, none⟩), .pointer (some ⟨pb, 0, none⟩), .int .i64 (y.st.n : Int), .int .i64 (i : Int)] hz := by
          intro dd
          induction dd with
          | zero =>
            intro i hz hi Iz
            exact hL22 _ _ _ _ _ ⟨_, hcfg Iz, iF (decide_eq_false (by omega)) (trim hz Iz)⟩
          | succ dd ih =>
            intro i hz hi Iz
            have Pz : (plR c Q y).P hz := Iz.at 0
            refine hL22 _ _ _ _ _ ⟨_, hcfg Iz, iT (decide_eq_true (by omega)) ⟨_, rfl, ?_⟩⟩
            rw [← hq]
            refine ground_Buddy_ok Pz ⟨_, rfl, freeB Wy (pl_bu Pz) (o := i) (by omega) fun h10 p10 c10 S10 => ⟨_, _, _, rfl, iF ?_ ?_⟩⟩
            · rw [low_free Wy (by omega)]; rfl
            have S10' : Stp hz h10 (plR c Q y) (plR c Q y) := pl_lift' Pz (S10.conv (fun A => A.1) fun b e => .inl e)
            rw [show IntKind.wrap .i64 ((i : Int) + 1) = ((i + 1 : Nat) : Int) by rw [IntKind.wrap_i64]; omega, hq]
            exact ih (i + 1) h10 (by omega) (Iz.step 0 S10')
        rw [hq]
        exact low on 0 h9 (by omega) I9
      -- rounds
      have rounds : ∀ (dd r : Nat) (hy : Heap) (y : BU) (fy : Nat → List Nat) (D : Nat → Bool), r + dd = 8 → (r = 8 → ∀ i, i < bs.length → D i = true) → WI c y fy (remL bs D) → y.m.o = on →
          Hold w.heap hy [slR (some ⟨db, 0, none⟩) bs.length bs.length 1 fun i => .bool (D i), slR ap bs.length ac 1 (uL (atL c bs)), slR kp bs.length kc 1 (iL (koL bs)), plR c Q y, blkR cb 3 (f3 (.int .u64 1048576) (.int .i64 ((ln : Int) + 1)) (.int .i64 (on : Int)))] →
          L25 [.pointer (some ⟨cb, 0, none⟩), .pointer (some ⟨pb, 0, none⟩), .slice ap bs.length ac, .slice kp bs.length kc, .int .i64 (bs.length : Int), .int .i64 s, .slice (some ⟨db, 0, none⟩) bs.length bs.length, .int .i64 (r : Int)] hy := by
        intro dd
        induction dd with
        | zero =>
          intro r hy y fy D hr hall Wy oy Iy
          rw [rem_nil (hall (by omega))] at Wy
          exact hL25 _ _ _ _ _ _ _ _ _ _ _ _ _ _ _ (iF (decide_eq_false (by omega)) (fin9 hy y fy Wy oy (Iy.sub (.cons _ (.cons _ (.cons _ (.cons_cons _ (.cons_cons _ .slnil))))))))
        | succ dd ih =>
          intro r hy y fy D hr hall Wy oy Iy
          refine hL25 _ _ _ _ _ _ _ _ _ _ _ _ _ _ _ (iT (decide_eq_true (by omega)) fun J26 hJ26 L27 hL27 => ?_)
          have each : ∀ (de i : Nat) (hz : Heap) (z : BU) (fz : Nat → List Nat) (D : Nat → Bool), i + de = bs.length → (r = 7 → ∀ j, j < i → D j = true) → WI c z fz (remL bs D) → z.m.o = on →
              Hold w.heap hz [slR (some ⟨db, 0, none⟩) bs.length bs.length 1 fun i => .bool (D i), slR ap bs.length ac 1 (uL (atL c bs)), slR kp bs.length kc 1 (iL (koL bs)), plR c Q z, blkR cb 3 (f3 (.int .u64 1048576) (.int .i64 ((ln : Int) + 1)) (.int .i64 (on : Int)))] →
              L27 [.pointer (some ⟨cb, 0, none⟩), .pointer (some ⟨pb, 0, none⟩), .slice ap bs.length ac, .slice kp bs.length kc, .int .i64 (bs.length : Int), .int .i64 s, .slice (some ⟨db, 0, none⟩) bs.length bs.length, .int .i64 (r : Int), .int .i64 (i : Int)] hz := by
            intro de
            induction de with
            | zero =>
              intro i hz z fz D hi h7 Wz oz Iz
              refine hL27 _ _ _ _ _ _ _ _ _ _ _ _ _ _ _ _ (iF (decide_eq_false (by omega)) (hJ26 _ _ _ _ _ _ _ _ _ _ _ _ _ _ _ ?_))
              rw [show IntKind.wrap .i64 ((r : Int) + 1) = ((r + 1 : Nat) : Int) by rw [IntKind.wrap_i64]; omega]
              exact ih (r + 1) hz z fz D (by omega) (fun e j hj => h7 (by omega) j (by omega)) Wz oz Iz
            | succ de ih2 =>
              intro i hz z fz D hi h7 Wz oz Iz
              have hil : i < bs.length := by omega
              refine hL27 _ _ _ _ _ _ _ _ _ _ _ _ _ _ _ _ (iT (decide_eq_true (by omega)) fun J28 hJ28 => ?_)
              have nx : ∀ (hv : Heap) (v : BU) (fv : Nat → List Nat) (D' : Nat → Bool), (r = 7 → ∀ j, j < i + 1 → D' j = true) → WI c v fv (remL bs D') → v.m.o = on →
                  Hold w.heap hv [slR (some ⟨db, 0, none⟩) bs.length bs.length 1 fun i => .bool (D' i), slR ap bs.length ac 1 (uL (atL c bs)), slR kp bs.length kc 1 (iL (koL bs)), plR c Q v, blkR cb 3 (f3 (.int .u64 1048576) (.int .i64 ((ln : Int) + 1)) (.int .i64 (on : Int)))] →
                  J28 [.pointer (some ⟨cb, 0, none⟩), .pointer (some ⟨pb, 0, none⟩), .slice ap bs.length ac, .slice kp bs.length kc, .int .i64 (bs.length : Int), .int .i64 s, .slice (some ⟨db, 0, none⟩) bs.length bs.length, .int .i64 (r : Int), .int .i64 (i : Int)] hv := by
                intro hv v fv D' h7' Wv ov Iv
                refine hJ28 _ _ _ _ _ _ _ _ _ _ _ _ _ _ _ _ ?_
                rw [show IntKind.wrap .i64 ((i : Int) + 1) = ((i + 1 : Nat) : Int) by rw [IntKind.wrap_i64]; omega]
                exact ih2 (i + 1) hv v fv D' (by omega) h7' Wv ov Iv
              obtain ⟨db', ed, vd⟩ := sl_cell (Iz.at 0) (i := i) (by omega)
              cases ed
              refine ⟨_, rfl, by omega, by omega, D i, by rw [addq]; exact vd, fun J29 hJ29 => ?_⟩
              cases hD : D i with
              | true =>
                refine qF' rfl (hJ29 _ _ (iF rfl (nx hz z fz D (fun e j hj => ?_) Wz oz Iz)))
                rcases Nat.lt_or_ge j i with h1 | h1
                · exact h7 e j h1
                · have : j = i := by omega
                  subst this; exact hD
              | false =>
                have give : J29 true hz := by
                  obtain ⟨ab, ea, va⟩ := sl_cell (Iz.at 1) (i := i) (by omega)
                  obtain ⟨kb, ek, vk⟩ := sl_cell (Iz.at 2) (i := i) (by omega)
                  have va : cellAt hz ⟨ab, i, none⟩ = some (.int .u64 (adr c (bs.getD i (0, 0)).1)) := by
                    rw [va]; unfold uL atL
                    rw [List.getD_eq_getElem?_getD, List.getElem?_map, List.getElem?_eq_getElem hil, List.getD_eq_getElem?_getD, List.getElem?_eq_getElem hil]; rfl
                  have vk : cellAt hz ⟨kb, i, none⟩ = some (.int .i64 ((bs.getD i (0, 0)).2 : Int)) := by
                    rw [vk]; unfold iL koL
                    rw [List.getD_eq_getElem?_getD, List.getElem?_map, List.getElem?_eq_getElem hil, List.getD_eq_getElem?_getD, List.getElem?_eq_getElem hil]; rfl
                  refine hJ29 _ _ (iT rfl ⟨_, ea, by omega, by omega, _, by rw [addq]; exact va, _, ek, by omega, by omega, _, by rw [addq]; exact vk, ?_⟩)
                  have hrem := rem_one hil hD
                  have Pz : (plR c Q z).P hz := Iz.at 3
                  rw [← hq]
                  refine giveP (p := (bs.getD i (0, 0)).1) (k := (bs.getD i (0, 0)).2) Wz Pz hrem fun z' h10 Wz' M S10 => ⟨_, rfl, iF rfl ⟨_, rfl, by omega, by omega, ?_⟩⟩
                  have I10 := Iz.step 3 S10
                  obtain ⟨db', ed, hwd, S11⟩ := sl_set (I10.at 0) (o := i) (by omega) (.bool true)
                  cases ed
                  rw [addq]
                  refine ⟨hwd, ?_⟩
                  rw [hq]
                  refine nx _ z' _ (fun j => if j = i then true else D j) (fun e j hj => ?_) Wz' (by rw [M.o, oz]) (I10.step 0 (S11.conv (fun A => sl_congr A fun j hj => ?_) fun _ e => e))
                  · show (if j = i then true else D j) = true
                    by_cases e2 : j = i
                    · rw [if_pos e2]
                    · rw [if_neg e2]; exact h7 e j (by omega)
                  · show (if j = i then Value.bool true else .bool (D j)) = .bool (if j = i then true else D j)
                    split <;> rfl
                refine qT rfl ⟨by decide, fun J32 hJ32 => ?_⟩
                have skip : r ≠ 7 → J29 false hz := fun h77 => hJ29 _ _ (iF rfl (nx hz z fz D (fun e => absurd e h77) Wz oz Iz))
                have both : J32 ((r : Int) == 7) hz := by
                  by_cases h77 : r = 7
                  · have e : ((r : Int) == 7) = true := by rw [h77]; rfl
                    rw [e]; exact hJ32 _ _ give
                  · have e : ((r : Int) == 7) = false := beq_false_of_ne (by omega)
                    rw [e]; exact hJ32 _ _ (skip h77)
                exact ⟨fun _ => both, fun _ => hJ32 _ _ give⟩
          exact each bs.length 0 hy y fy D (by omega) (fun _ j hj => by omega) Wy oy Iy
      exact rounds 8 0 h8 x fl (fun _ => false) (by omega) (fun e => by omega) (by rw [rem_all]; exact W) ox I8
    exact ⟨fun _ => m7 _, fun _ => m7 _⟩
  -- as many as there are
  have loop : ∀ (k i : Nat) (bs : List PBk) (hx : Heap) (Q : PL) (x : BU) (fl : Nat → List Nat) (ap kp : Option Addr) (ac kc : Nat), i + k = n → Q.pb = pb → WI c x fl bs → x.m.o = on →
      Hold w.heap hx [slR ap bs.length ac 1 (uL (atL c bs)), slR kp bs.length kc 1 (iL (koL bs)), plR c Q x, blkR cb 3 (f3 (.int .u64 1048576) (.int .i64 ((ln : Int) + 1)) (.int .i64 (on : Int)))] →
      L33 [.slice p n cp, .int .i64 fr, .pointer (some ⟨cb, 0, none⟩), .pointer (some ⟨pb, 0, none⟩), .slice ap bs.length ac, .slice kp bs.length kc, .int .i64 (i : Int)] hx := by
    intro k
    induction k with
    | zero =>
      intro i bs hx Q x fl ap kp ac kc hi hq W ox I
      have hbs : bs.length ≤ 1024 := Nat.le_trans (L_len W) W.ok.m.n1
      exact hL33 _ _ _ _ _ _ _ _ _ _ _ _ _ _ (iF (decide_eq_false (by omega)) (gone bs hx Q x fl ap kp ac kc hbs hq W ox I))
    | succ k ih =>
      intro i bs hx Q x fl ap kp ac kc hi hq W ox I
      have hbs : bs.length ≤ 1024 := Nat.le_trans (L_len W) W.ok.m.n1
      refine hL33 _ _ _ _ _ _ _ _ _ _ _ _ _ _ (iT (decide_eq_true (by omega)) fun J34 hJ34 => ?_)
      have hwr : IntKind.wrap .i64 ((i : Int) + 1) = ((i + 1 : Nat) : Int) := by rw [IntKind.wrap_i64]; omega
      rcases hr with hr0 | ⟨b0, off, rfl, hr⟩
      · omega
      have hci : ∀ hy, Upd NoB w.heap hy → cellAt hy ((⟨b0, off, none⟩ : Addr).add (Int.toNat (i : Int) * 1)) = some (.int .i64 (f i)) := fun hy u => by
        rw [add_mk, Int.toNat_natCast, Nat.mul_one]
        exact cellAt_upd (hr i (by omega)) u id
      have P : (plR c Q x).P hx := I.at 2
      refine ⟨_, rfl, by omega, by omega, _, hci hx I.u, ?_⟩
      have no : ∀ (hy : Heap), Hold w.heap hy [slR ap bs.length ac 1 (uL (atL c bs)), slR kp bs.length kc 1 (iL (koL bs)), plR c Q x, blkR cb 3 (f3 (.int .u64 1048576) (.int .i64 ((ln : Int) + 1)) (.int .i64 (on : Int)))] → J34 [.slice (some ⟨b0, off, none⟩) n cp, .int .i64 fr, .pointer (some ⟨cb, 0, none⟩), .pointer (some ⟨pb, 0, none⟩), .slice ap bs.length ac, .slice kp bs.length kc, .int .i64 (i : Int)] hy := fun hy Iy => by
        refine hJ34 _ _ _ _ _ _ _ _ _ _ _ _ _ _ ?_
        rw [hwr]
        exact ih (i + 1) bs hy Q x fl ap kp ac kc (by omega) hq W ox Iy
      have yes : ∀ (hy : Heap) (Q' : PL) (x' : BU) (fl' : Nat → List Nat) (q ono : Nat), f i = ono → Q'.pb = pb → WI c x' fl' ((q, ono) :: bs) → x'.m.o = on → Hold w.heap hy [slR ap bs.length ac 1 (uL (atL c bs)), slR kp bs.length kc 1 (iL (koL bs)), plR c Q' x', blkR cb 3 (f3 (.int .u64 1048576) (.int .i64 ((ln : Int) + 1)) (.int .i64 (on : Int)))] →
          ∃ os59 xs59 : List Value, AppPre (Array.push hy (.cells #[.int .u64 (adr c q)] T.T_uint64)) ap bs.length ac (some ⟨hy.size, 0, none⟩) 1 1 8 os59 xs59 ∧ ∀ (p59 : Option Addr) (c59 : Nat) (h59 : Heap), AppRes (Array.push hy (.cells #[.int .u64 (adr c q)] T.T_uint64)) ap bs.length ac 1 [.int .u64 0] T.T_uint64 os59 xs59 p59 c59 h59 →
            (∃ a63 : Addr, (some (⟨b0, off, none⟩ : Addr) : Option Addr) = some a63 ∧ 0 ≤ (i : Int) ∧ (i : Int) < (n : Nat) ∧ (∃ n64 : Int, cellAt h59 (a63.add (Int.toNat (i : Int) * 1)) = some (.int .i64 n64) ∧ (∃ os66 xs66 : List Value, AppPre (Array.push h59 (.cells #[.int .i64 n64] T.T_int)) kp bs.length kc (some ⟨h59.size, 0, none⟩) 1 1 8 os66 xs66 ∧ ∀ (p66 : Option Addr) (c66 : Nat) (h66 : Heap), AppRes (Array.push h59 (.cells #[.int .i64 n64] T.T_int)) kp bs.length kc 1 [.int .i64 0] T.T_int os66 xs66 p66 c66 h66 →
              J34 [.slice (some ⟨b0, off, none⟩) n cp, .int .i64 fr, .pointer (some ⟨cb, 0, none⟩), .pointer (some ⟨pb, 0, none⟩), .slice p59 (bs.length + 1) c59, .slice p66 (bs.length + 1) c66, .int .i64 (i : Int)] h66))) := by
        intro hy Q' x' fl' q ono hfo hq' W' ox' Iy
        obtain ⟨os, q1, q2⟩ := sl_app1 (zs := [.int .u64 0]) (v := .int .u64 (adr c q)) (b := 8) (e := T.T_uint64) (T := T.T_uint64) (Iy.at 0) rfl rfl (by omega)
        refine ⟨os, _, q1, fun p59 c59 h59 res => ?_⟩
        have ea : (atL c bs).length = bs.length := by simp
        have ek : (koL bs).length = bs.length := by simp
        have I59 := Iy.step 0 (R := slR ap bs.length ac 1 (uL (atL c bs))) (R' := slR p59 (bs.length + 1) c59 1 (uL (atL c (bs ++ [(q, ono)])))) ((q2 p59 c59 h59 res).conv (fun A => sl_congr A fun j hj => by
          have := uL_sn (xs := atL c bs) (v := adr c q) (i := j) (by rw [ea]; exact hj)
          rw [ea] at this
          rw [this]; unfold atL; rw [List.map_append]; rfl) fun _ e => e)
        refine ⟨_, rfl, by omega, by omega, _, hci h59 I59.u, ?_⟩
        rw [hfo]
        obtain ⟨os', q3, q4⟩ := sl_app1 (zs := [.int .i64 0]) (v := .int .i64 (ono : Int)) (b := 8) (e := T.T_int) (T := T.T_int) (I59.at 1) rfl rfl (by omega)
        refine ⟨os', _, q3, fun p66 c66 h66 res2 => hJ34 _ _ _ _ _ _ _ _ _ _ _ _ _ _ ?_⟩
        have I66 := I59.step 1 (R := slR kp bs.length kc 1 (iL (koL bs))) (R' := slR p66 (bs.length + 1) c66 1 (iL (koL (bs ++ [(q, ono)])))) ((q4 p66 c66 h66 res2).conv (fun A => sl_congr A fun j hj => by
          have := iL_sn (xs := koL bs) (v := (ono : Int)) (i := j) (by rw [ek]; exact hj)
          rw [ek] at this
          rw [this]; unfold koL; rw [List.map_append]; rfl) fun _ e => e)
        rw [hwr]
        have el : (bs ++ [(q, ono)]).length = bs.length + 1 := by simp
        have := ih (i + 1) (bs ++ [(q, ono)]) h66 Q' x' fl' p59 p66 c59 c66 (by omega) hq' (W'.perm (List.perm_append_comm (l₁ := [(q, ono)]))) ox' (by rw [el]; exact I66)
        rw [el] at this
        exact this
      rw [← hq]
      refine needP W P (fun _ h9 S9 => ⟨_, _, _, rfl, iF rfl ?_⟩) (fun ono eo _ j q l _ _ _ _ x' h9 W' M S9 => ⟨_, _, _, rfl, iT rfl ?_⟩) (fun ono eo _ _ _ h9 S9 => ⟨_, _, _, rfl, iF rfl ?_⟩) fun ono eo _ _ _ _ x' h9 Q' eq _ W' o' _ _ _ S9 => ⟨_, _, _, rfl, iT rfl ?_⟩
      · rw [hq]; exact no h9 (I.step 2 S9)
      · rw [hq]; exact yes h9 Q x' _ q ono eo hq W' (by rw [M.o, ox]) (I.step 2 S9)
      · rw [hq]; exact no h9 (I.step 2 S9)
      · rw [hq]; exact yes h9 Q' x' _ _ ono eo (eq.trans hq) W' (by rw [o', ox]) (I.step 2 S9)
  have I6 : Hold w.heap h5 [slR none ([] : List PBk).length 0 1 (uL (atL c [])), slR none ([] : List PBk).length 0 1 (iL (koL [])), plR c Q x0, blkR cb 3 (f3 (.int .u64 1048576) (.int .i64 ((ln : Int) + 1)) (.int .i64 (on : Int)))] :=
    (I5.new (R := slR none ([] : List PBk).length 0 1 (iL (koL []))) ⟨Upd.refl _ _, sl_nil _ _ _, fun b e => absurd e (sl_nil_fp b)⟩).new ⟨Upd.refl _ _, sl_nil _ _ _, fun b e => absurd e (sl_nil_fp b)⟩
  exact loop n 0 [] h5 Q x0 _ none none 0 0 (by omega) hpb W0 mo I6
end Go.Proofs.Ytippbfnhgooepaa
