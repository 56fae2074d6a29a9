/- croftlaw7: users write into live blocks; SlabKeeps. No condition. -/
import Derived.Test.YteemmpkhdllapaaDoorZEJ
import Derived.Test.YteemmpkhdllapaaDoorZBP
import Derived.Test.YteemmpkhdllapaaDoorZGcroftlaw7SlabKeeps
set_option linter.unusedSimpArgs false
set_option linter.unusedVariables false
namespace Go.Proofs.YteemmpkhdllapaaDoor
open Go.V Classical

section
variable {w₀ : World} {h : Heap} {c : Cfg} {wb : Nat} {d : List Value} {Q : SL} {x : BU} {hp : Nat → Int} {S : Nat → Prop} {fl : Nat → List Nat} {L : List PBk} {cl : Nat → Nat} {fr pl : Nat → List Nat} {l : List CE} {K : Value → Heap → Prop} {q j a n : Nat}

theorem fr_dj (I : SI c x hp S fl L cl fr pl) (hlv : Lv S L cl fr a n) (hq : S q) (hj : j ∈ fr q) : a + n ≤ 4096 * q + j * wdt (cl q) ∨ 4096 * q + j * wdt (cl q) + wdt (cl q) ≤ a := by
  have dj := (List.pairwise_append.1 I.w.til.dj).1
  have pw : ∀ b ∈ L, ∀ b' ∈ L, b ≠ b' → Dj b b' := fun b hb b' hb' hn => pw_of (fun _ _ => Dj.symm) dj hb hb' hn
  have h2 := cell_in (I.k8 q hq) ((I.nd q hq).2 j hj)
  rcases hlv with ⟨q', k', hL', hS', ea, en⟩ | ⟨q', j', hS', hj', hn', ea, en⟩
  · have := pw _ hL' _ (I.inL q hq) (fun e => by cases e; exact hS' hq)
    unfold Dj at *
    simp only [Nat.pow_zero] at *
    omega
  · have h1 := cell_in (I.k8 q' hS') hj'
    by_cases e : q' = q
    · subst e
      rcases Nat.lt_trichotomy j' j with h | h | h
      · have : j' * wdt (cl q') + wdt (cl q') ≤ j * wdt (cl q') := by rw [← Nat.succ_mul]; exact Nat.mul_le_mul_right _ h
        omega
      · subst h; exact absurd hj hn'
      · have : j * wdt (cl q') + wdt (cl q') ≤ j' * wdt (cl q') := by rw [← Nat.succ_mul]; exact Nat.mul_le_mul_right _ h
        omega
    · omega

theorem SI.fill (I : SI c x hp S fl L cl fr pl) (hlv : Lv S L cl fr a n) {st' : Sto} (hn : st'.n = x.st.n) (hM : ∀ o, (o < a ∨ a + n ≤ o) → st'.M o = x.st.M o) : SI c (x.ws st') hp S fl L cl fr pl := by
  have hlb : ∃ b ∈ L, 4096 * b.1 ≤ a ∧ a + n ≤ 4096 * (b.1 + 2 ^ b.2) := by
    obtain ⟨b, h1, h2, h3, _⟩ := lv_in I.k8 I.inL hlv
    exact ⟨b, h1, h2, h3⟩
  obtain ⟨⟨p, k⟩, hb, h1, h2⟩ := hlb
  simp only [] at h1 h2
  have W : WS S c (x.ws st') fl L := ⟨I.w.rep.fill hb hn fun o ho => hM o (by
    rcases ho with ho | ho
    · exact .inl (Nat.lt_of_lt_of_le ho h1)
    · exact .inr (Nat.le_trans h2 ho)), by show x.m.n = st'.n * 2 ^ x.m.o; rw [hn]; exact I.w.e, I.w.g⟩
  refine ⟨W, I.k8, I.nd, I.pn, I.hd, I.pg, I.ch, I.no, fun q hq => Lnk_congr (fun j hj => ?_) (I.lk q hq)⟩
  have hd := fr_dj I hlv hq hj
  have hw := wdt_pos (cl q)
  have hw16 : 16 ≤ wdt (cl q) := by unfold wdt; have := Nat.two_pow_pos (cl q); omega
  have e1 : (adr c q + ((j * wdt (cl q) : Nat) : Int) - c.base).toNat = 4096 * q + j * wdt (cl q) := by unfold adr; omega
  unfold Sto.rd
  rw [e1]
  exact wrd_congr fun i hi => hM _ (by omega)

theorem lv_there (I : SI c x hp S fl L cl fr pl) (hlv : Lv S L cl fr a n) : There c x.st.n (c.base + (a : Int)) (n : Int) ∧ U64 (c.base + (a : Int)) ∧ a + n ≤ 4194304 ∧ (c.base + (a : Int) - c.base).toNat = a := by
  have hbd := lv_bd I hlv
  have hb := bu_bounds I.w.g I.w.ok.m
  have n1 := I.w.ok.m.n1
  have hsp := I.ki.span
  refine ⟨.inr ⟨by omega, by omega⟩, by unfold U64; omega, by omega, by omega⟩

theorem fill7_ok (I : SI c x hp S fl L cl fr pl) (hlv : Lv S L cl fr a n) {v : Int} (hv : 0 ≤ v ∧ v < 256) (H : (w7R c wb d Q x hp).P h)
    (hK : ∀ st' h', st'.n = x.st.n → (∀ o, a ≤ o → o < a + n → st'.M o = v) → (∀ o, (o < a ∨ a + n ≤ o) → st'.M o = x.st.M o) → SI c (x.ws st') hp S fl L cl fr pl →
      Stp h h' (w7R c wb d Q x hp) (w7R c wb d Q (x.ws st') hp) → K (.int .i64 0) h') :
    CallV Tryd.prog w₀ F.mem_Space_Fill [gptr Q.pl.B.s, .int .u64 (c.base + (a : Int)), .int .u64 (n : Int), .int .u8 v] h K := by
  obtain ⟨t, hu, hle, e1⟩ := lv_there I hlv
  refine mem_Fill_ok hu (by omega) hv (s_sp (w_s H)) (fun _ h1 u1 H1 => ?_) fun hn => absurd t hn
  rw [e1, Int.toNat_natCast] at H1
  let st' : Sto := ⟨x.st.n, fun o => if a ≤ o ∧ o < a + n then v else x.st.M o⟩
  have hM : ∀ o, (o < a ∨ a + n ≤ o) → st'.M o = x.st.M o := fun o ho => by
    show (if a ≤ o ∧ o < a + n then v else x.st.M o) = _
    rw [if_neg (by omega)]
  have S1 := s_sto (st' := st') (w_s H) ⟨u1, H1, fun b e => .inl e⟩
  refine hK st' h1 rfl (fun o h1 h2 => ?_) hM (I.fill hlv rfl hM) (w_lift H (.refl Q) S1)
  show (if a ≤ o ∧ o < a + n then v else x.st.M o) = _
  rw [if_pos ⟨h1, h2⟩]

theorem read7_ok (I : SI c x hp S fl L cl fr pl) (hlv : Lv S L cl fr a n) (H : (w7R c wb d Q x hp).P h)
    (hK : ∀ h' bb, New h h' (blkR bb n fun j => .int .u8 (x.st.M (a + j))) → K (.tuple #[.slice (some ⟨bb, 0, none⟩) n n, .int .i64 0]) h') :
    CallV Tryd.prog w₀ F.mem_Space_Read [gptr Q.pl.B.s, .int .u64 (c.base + (a : Int)), .int .u64 (n : Int)] h K := by
  obtain ⟨t, hu, hle, e1⟩ := lv_there I hlv
  refine mem_Read_ok hu (by omega) (s_sp (w_s H)) (fun _ h1 bb u1 hbb B1 => ?_) fun hn => absurd t hn
  rw [e1, Int.toNat_natCast] at B1
  rw [Int.toNat_natCast]
  exact hK h1 bb ⟨u1, B1, fun b e => by have e : b = bb := e; omega⟩
end

def MkE (st : Sto) (l : List CE) : Prop := ∀ e ∈ l, ∀ o, e.a ≤ o → o < e.a + e.n → st.M o = e.m

theorem SlabKeeps_law {w : World} {a b d : Int} {p : Option Addr} {n cp : Nat} (T0 : Tab w.heap) (ha : (Lit.int .u64 a).wf = true) (hb : (Lit.int .i64 b).wf = true) (hd : (Lit.int .i64 d).wf = true) (hs : HRow w.heap dd7Ty 4 p n cp) :
    CallV Tryd.prog w F.croftlaw7_SlabKeeps [.agg #[.int .u64 a, .int .i64 b, .int .i64 d], .slice p n cp] w.heap fun v h' => v = .bool true ∧ Upd NoB w.heap h' := by
  have hn := hs.1
  have hc := hs.2.1
  have hfin : ∀ h', Upd NoB w.heap h' → (fun (r : Value) (h' : Heap) => r = Value.bool true ∧ Upd NoB w.heap h') (.bool true) h' := fun h' u => ⟨rfl, u⟩
  generalize (fun (r : Value) (h' : Heap) => r = Value.bool true ∧ Upd NoB w.heap h') = K at hfin ⊢
  refine croftlaw7_SlabKeeps.call ?_
  unfold croftlaw7_SlabKeeps.vc
  have N0 := box_l w.heap [.int .u64 a, .int .i64 b, .int .i64 d] T.T_api_Config
  generalize Array.push w.heap (.cells #[.int .u64 a, .int .i64 b, .int .i64 d] T.T_api_Config) = h0 at N0 ⊢
  have I0 := (Hold.nil w.heap).new N0
  have B0 := I0.at 0
  refine ⟨_, cell_l0 B0, _, cell_l B0 1, _, cell_l B0 2, beginX (wf_u64 ha) fun h1 wb Q1 dl hl N1 => ⟨_, rfl, fun J3 hJ3 => pF rfl ?_⟩⟩
  have g5 := usual7_good a b d
  have W0 : SI (usual7 a b d) (BU0 (usual7 a b d)) (fun _ => -1) noS (fun _ => []) [] (fun _ => 0) (fun _ => []) (fun _ => []) := si0 g5 (fun _ => 0) (fun _ => [])
  generalize usual7 a b d = c at N1 g5 W0
  generalize BU0 c = x0 at N1 W0
  have I1 := I0.new N1
  refine lives7_ok (T0.upd I1.u id) fun h2 u2 => ⟨_, rfl, hJ3 _ _ (iF rfl fun J4 hJ4 L12 hL12 => ?_)⟩
  have I2 := I1.quiet u2
  have I2 : Hold w.heap h2 [w7R c wb dl Q1 x0 fun _ => -1] := I2.sub (.cons_cons _ (.cons _ .slnil))
  have I3 := bk_nil (b0 := c.base) I2
  -- all are looked at
  have last : ∀ (hx : Heap) (Q : SL) (x : BU) (hp : Nat → Int) (S : Nat → Prop) (fl : Nat → List Nat) (L : List PBk) (cl : Nat → Nat) (fr pl : Nat → List Nat) (l : List CE) (bp : Option Addr) (bc : Nat), l.length ≤ 1000 → SI c x hp S fl L cl fr pl → Book l S L cl fr → MkE x.st l →
      Hold w.heap hx [wkR c wb dl Q x hp bp bc l] → J4 [gptr wb, .slice bp l.length bc] hx := by
    intro hx Q x hp S fl L cl fr pl l bp bc hl W B hmk I
    refine hJ4 _ _ _ _ _ fun J5 hJ5 L6 hL6 => ?_
    have loop : ∀ (k i : Nat) (hy : Heap), i + k = l.length → Hold w.heap hy [wkR c wb dl Q x hp bp bc l] → L6 [gptr wb, .slice bp l.length bc, .int .i64 (i : Int)] hy := by
      intro k
      induction k with
      | zero =>
        intro i hy hi I
        exact hL6 _ _ _ _ _ _ (iF (decide_eq_false (by omega)) (hJ5 _ (hfin _ I.u)))
      | succ k ih =>
        intro i hy hi I
        have hil : i < l.length := by omega
        have J := (Go.V.Own.of (I.at 0)).split
        have H : (w7R c wb dl Q x hp).P hy := J.at 0
        obtain ⟨ad, e1, r1, r2, r3⟩ := row_ce (sl_row (J.at 1)) hil
        have hem : l.getD i ce0 ∈ l := ceD_mem hil
        have hlv := B.lvs hem
        have hbd := lv_bd W hlv
        have hmb := hmk _ hem
        obtain ⟨t1, t2, t3, _⟩ := lv_there W hlv
        generalize hel : l.getD i ce0 = e at r1 r2 r3 hem hlv hbd hmb t1 t2 t3
        refine hL6 _ _ _ _ _ _ (iT (decide_eq_true (by omega)) fun J7 hJ7 => ⟨_, rfl, _, w_c3 H, _, rfl, ad, e1, by omega, by omega, _, r1, ad, e1, by omega, by omega, _, r2, ground_Space_ok (s_pl (w_s H)) ⟨_, rfl, r2, r1, read7_ok W hlv H fun h2 bb N2 => ⟨_, _, _, _, rfl, fun J10 hJ10 => ?_⟩⟩⟩)
        have J2 := J.new N2
        have I2 := (I.new N2)
        have R2 := sl_row (J2.at 2)
        have I2 : Hold w.heap h2 [wkR c wb dl Q x hp bp bc l] := I2.drop
        obtain ⟨ad2, e2, r1', r2', r3'⟩ := row_ce R2 hil
        rw [hel] at r1' r2' r3'
        refine pF rfl ⟨ad2, e2, by omega, by omega, _, r2', hJ10 _ _ (iF (by rw [wU (by unfold U64; omega)]; simp) fun L11 hL11 => ?_)⟩
        have bytes : ∀ (dd z : Nat), z + dd = e.n → L11 [gptr wb, .slice bp l.length bc, .int .i64 (i : Int), .slice (some ⟨bb, 0, none⟩) e.n e.n, .int .i64 (z : Int)] h2 := by
          intro dd
          induction dd with
          | zero =>
            intro z hz
            refine hL11 _ _ _ _ _ _ _ _ _ _ (iF (decide_eq_false (by omega)) (hJ7 _ _ _ _ _ _ ?_))
            rw [show IntKind.wrap .i64 ((i : Int) + 1) = ((i + 1 : Nat) : Int) by rw [IntKind.wrap_i64]; omega]
            exact ih (i + 1) h2 (by omega) I2
          | succ dd ihd =>
            intro z hz
            have hcl := (show Blk h2 bb e.n fun j => .int .u8 (x.st.M (e.a + j)) from N2.p).cell (i := z) (by omega)
            rw [hmb (e.a + z) (by omega) (by omega)] at hcl
            refine hL11 _ _ _ _ _ _ _ _ _ _ (iT (decide_eq_true (by omega)) ⟨_, rfl, by omega, by omega, e.m, ?_, ad2, e2, by omega, by omega, _, r3', iF (by simp) ?_⟩)
            · rw [add_mk, Int.toNat_natCast, Nat.mul_one, Nat.zero_add]; exact hcl
            · rw [show IntKind.wrap .i64 ((z : Int) + 1) = ((z + 1 : Nat) : Int) by rw [IntKind.wrap_i64]; omega]
              exact ihd (z + 1) (by omega)
        exact bytes e.n 0 (by omega)
    exact loop l.length 0 hx (by omega) I
  have loop : ∀ (k i : Nat) (hx : Heap) (Q : SL) (x : BU) (hp : Nat → Int) (S : Nat → Prop) (fl : Nat → List Nat) (L : List PBk) (cl : Nat → Nat) (fr pl : Nat → List Nat) (l : List CE) (bp : Option Addr) (bc : Nat), i + k = n → l.length ≤ i → i ≤ 120 → SI c x hp S fl L cl fr pl → Book l S L cl fr → MkE x.st l →
      Hold w.heap hx [wkR c wb dl Q x hp bp bc l] → L12 [.slice p n cp, gptr wb, .slice bp l.length bc, .int .i64 (i : Int)] hx := by
    intro k
    induction k with
    | zero =>
      intro i hx Q x hp S fl L cl fr pl l bp bc hi hl h300 W B hmk I
      exact hL12 _ _ _ _ _ _ _ _ _ fun J13 hJ13 => qF' (decide_eq_false (by omega)) (hJ13 _ _ (iF rfl (last hx Q x hp S fl L cl fr pl l bp bc (by omega) W B hmk I)))
    | succ k ih =>
      intro i hx Q x hp S fl L cl fr pl l bp bc hi hl h300 W B hmk I
      refine hL12 _ _ _ _ _ _ _ _ _ fun J13 hJ13 => qT (decide_eq_true (by omega)) (hJ13 _ _ ?_)
      by_cases h3 : (i : Int) < 120
      case neg => exact iF (decide_eq_false h3) (last hx Q x hp S fl L cl fr pl l bp bc (by omega) W B hmk I)
      obtain ⟨ad, z0, z1, z2, z3, ead, b1, b2, hcell⟩ := dd7_at hs (i := i) (by omega)
      obtain ⟨c0, c1, c2, c3⟩ := hcell hx I.u
      refine iT (decide_eq_true h3) ⟨ad, ead, by omega, by omega, _, c0, _, c1, _, c2, _, c3, do7_ok W B (TabH.of T0 I 0) (I.at 0) (by omega) b1 b2 fun x' hp' S' fl' L' cl' fr' pl' Q' l' bp' bc' h' hQ' W' B' O S1' => ⟨_, _, _, _, rfl, iF rfl fun J15 hJ15 => ?_⟩⟩
      have I' := I.step 0 S1'
      have hlen' := O.len
      have go : ∀ (hz : Heap) (x2 : BU), SI c x2 hp' S' fl' L' cl' fr' pl' → MkE x2.st l' → Hold w.heap hz [wkR c wb dl Q' x2 hp' bp' bc' l'] → J15 [.slice p n cp, gptr wb, .int .i64 (i : Int), .slice bp' l'.length bc'] hz := fun hz x2 W2 hmk2 I2 => by
        refine hJ15 _ _ _ _ _ _ _ _ _ ?_
        rw [show IntKind.wrap .i64 ((i : Int) + 1) = ((i + 1 : Nat) : Int) by rw [IntKind.wrap_i64]; omega]
        exact ih (i + 1) hz Q' x2 hp' _ fl' L' cl' fr' pl' l' bp' bc' (by omega) (by omega) (by omega) W2 B' hmk2 I2
      by_cases hgr : l.length < l'.length
      case neg =>
        refine iF (decide_eq_false (by omega)) (go h' x' W' (fun e he o h1 h2 => ?_) I')
        have hel := O.old (by omega) e he
        rw [O.mem e he hel o h1 h2]
        exact hmk e hel o h1 h2
      obtain ⟨e, rfl, hem⟩ := O.new hgr
      have el : (l ++ [e]).length = l.length + 1 := by simp
      have ei : IntKind.wrap .i64 (((l ++ [e]).length : Int) - 1) = (l.length : Int) := by rw [el, IntKind.wrap_i64]; omega
      have HB : (wkR c wb dl Q' x' hp' bp' bc' (l ++ [e])).P h' := I'.at 0
      obtain ⟨ad', e1', r1, r2, r3⟩ := row_ce (l := l ++ [e]) (sl_row HB.2.1) (i := l.length) (by omega)
      have eb : (l ++ [e]).getD l.length ce0 = e := by simp
      rw [eb] at r1 r2 r3
      have hme : e ∈ l ++ [e] := by simp
      have hlv := B'.lvs hme
      refine iT (decide_eq_true (by omega)) ⟨ad', e1', ?_⟩
      rw [ei]
      refine ⟨by omega, by omega, _, r1, _, r2, _, r3, ?_⟩
      have N8 := box_l h' [.int .u64 0, .int .u64 0, .int .u8 0] T.T_croftlaw7_block
      generalize Array.push h' (.cells #[.int .u64 0, .int .u64 0, .int .u8 0] T.T_croftlaw7_block) = h8 at N8 ⊢
      obtain ⟨b8, eb8⟩ : ∃ b8, b8 = Array.size h' := ⟨_, rfl⟩
      rw [← eb8] at N8 ⊢
      have I8 := I'.new N8
      obtain ⟨w9, S9⟩ := assign_l (I8.at 0) [.int .u64 (c.base + (e.a : Int)), .int .u64 (e.n : Int), .int .u8 e.m]
      have I9 := I8.step 0 S9
      refine ⟨w9, ?_⟩
      generalize setCs h8 ⟨b8, 0, none⟩ 0 [.int .u64 (c.base + (e.a : Int)), .int .u64 (e.n : Int), .int .u8 e.m] = h9 at I9 ⊢
      have I9 : Hold w.heap h9 [lR b8 [.int .u64 (c.base + (e.a : Int)), .int .u64 (e.n : Int), .int .u8 e.m], wkR c wb dl Q' x' hp' bp' bc' (l ++ [e])] := I9
      have B9 := I9.at 0
      have H9 : (wkR c wb dl Q' x' hp' bp' bc' (l ++ [e])).P h9 := I9.at 1
      refine ⟨_, rfl, _, w_c3 H9.1, _, rfl, _, cell_l0 B9, _, cell_l B9 1, _, cell_l B9 2, ground_Space_ok (s_pl (w_s H9.1)) ⟨_, rfl, cell_l B9 2, cell_l B9 1, cell_l0 B9, ?_⟩⟩
      refine fill7_ok W' hlv hem H9.1 fun st' h10 en eM eM' W10 S10 => ⟨_, rfl, iF rfl ?_⟩
      have I10 := I9.step 1 (R := wkR c wb dl Q' x' hp' bp' bc' (l ++ [e])) (S10.left H9)
      refine go h10 (x'.ws st') W10 ?_ I10.drop
      intro z hz y hy1 hy2
      rcases List.mem_append.1 hz with hz | hz
      · have hne : z.a ≠ e.a := (List.pairwise_append.1 B'.dj).2.2 z hz e (List.mem_singleton.2 rfl)
        have hdj := lv_dj W' (B'.lvs (List.mem_append_left _ hz)) hlv hne
        rw [show (x'.ws st').st.M y = x'.st.M y from eM' y (by omega), O.mem z (List.mem_append_left _ hz) hz y hy1 hy2]
        exact hmk z hz y hy1 hy2
      · have hz : z = e := by simpa using hz
        subst hz
        exact eM y hy1 hy2
  exact loop n 0 h2 Q1 x0 _ _ _ _ _ _ _ [] none 0 (by omega) (Nat.le_refl _) (by omega) W0 book0 (fun z hz => by cases hz) I3
end Go.Proofs.YteemmpkhdllapaaDoor
