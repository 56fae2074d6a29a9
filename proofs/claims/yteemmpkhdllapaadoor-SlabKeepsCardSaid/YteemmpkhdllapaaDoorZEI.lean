/- croftlaw7: a deed. No condition. -/
import Derived.Test.YteemmpkhdllapaaDoorZEH
import Derived.Test.YteemmpkhdllapaaDoorZGcroftlaw7worlddo
set_option linter.unusedSimpArgs false
set_option linter.unusedVariables false
namespace Go.Proofs.YteemmpkhdllapaaDoor
open Go.V Classical

abbrev wkR (c : Cfg) (wb : Nat) (d : List Value) (Q : SL) (x : BU) (hp : Nat → Int) (bp : Option Addr) (bc : Nat) (l : List CE) : Res := andR (w7R c wb d Q x hp) (bkR bp bc c.base l)

structure DoOut (l l' : List CE) (st st' : Sto) : Prop where
  len : l'.length ≤ l.length + 1
  new : l.length < l'.length → ∃ e, l' = l ++ [e] ∧ 0 ≤ e.m ∧ e.m < 256
  old : l'.length ≤ l.length → ∀ e ∈ l', e ∈ l
  mem : ∀ e ∈ l', e ∈ l → ∀ o, e.a ≤ o → o < e.a + e.n → st'.M o = st.M o

theorem DoOut.app {l : List CE} {st st' : Sto} {e : CE} (hm : 0 ≤ e.m ∧ e.m < 256) (hk : ∀ e' ∈ l, ∀ o, e'.a ≤ o → o < e'.a + e'.n → st'.M o = st.M o) : DoOut l (l ++ [e]) st st' := by
  have el : (l ++ [e]).length = l.length + 1 := by simp
  exact ⟨by omega, fun _ => ⟨_, rfl, hm⟩, fun h => absurd h (by omega), fun e' _ he => hk e' he⟩

section
variable {c : Cfg} {x x' : BU} {hp hp' : Nat → Int} {S S' : Nat → Prop} {fl fl' : Nat → List Nat} {L L' : List PBk} {cl cl' : Nat → Nat} {fr fr' pl pl' : Nat → List Nat} {l : List CE} {q k : Nat}

theorem no_meet (I' : SI c x' hp' S' fl' L' cl' fr' pl') {a n : Nat} (old : ∀ e ∈ l, Lv S' L' cl' fr' e.a e.n) (new : Lv S' L' cl' fr' a n) (hf : ∀ e ∈ l, e.a ≠ a) : meetsE l a n = false := by
  unfold meetsE
  rw [List.any_eq_false]
  intro e he
  have := lv_dj I' (old e he) new (hf e he)
  simp
  omega

theorem Book.lvs (B : Book l S L cl fr) {e : CE} (he : e ∈ l) : Lv S L cl fr e.a e.n := (B.mem _ _).2 ⟨e, he, rfl, rfl⟩

theorem no_page (I : SI c x hp S fl L cl fr pl) (B : Book l S L cl fr) (W : WS S' c x' fl' ((q, 0) :: L)) : meetsE l (4096 * q) 4096 = false := by
  unfold meetsE
  rw [List.any_eq_false]
  intro e he
  obtain ⟨b, hb, h1, h2, h3⟩ := lv_in I.k8 I.inL (B.lvs he)
  have hpg := fun o (a1 : 4096 * b.1 ≤ o) (a2 : o < 4096 * (b.1 + 2 ^ b.2)) => W.page hb a1 a2
  generalize b.1 + 2 ^ b.2 = z at h2 hpg
  have p1 := hpg e.a (by omega) (by omega)
  have p2 := hpg (e.a + e.n - 1) (by omega) (by omega)
  simp
  intro h4
  refine Nat.le_of_not_lt fun h5 => ?_
  have p3 := hpg (4096 * q) (by omega) (by omega)
  omega

theorem keep_e (I : SI c x hp S fl L cl fr pl) (B : Book l S L cl fr) {st' : Sto} (hk : Keep L x.st st') : ∀ e ∈ l, ∀ o, e.a ≤ o → o < e.a + e.n → st'.M o = x.st.M o := fun e he o h1 h2 => by
  obtain ⟨b, hb, b1, b2, _⟩ := lv_in I.k8 I.inL (B.lvs he)
  exact hk b hb o (by omega) (by generalize b.1 + 2 ^ b.2 = z at b2 ⊢; omega)

theorem noFit_cell (I : SI c x hp S fl L cl fr pl) (B : Book l S L cl fr) (hk : k < 8) : NoFit l x.m.n 0 (wdt k) ↔ (∀ j, j ≤ x.m.o → fl j = []) ∧ pl k = [] := by
  unfold NoFit
  have h1 := nofit_blk I B (k := 0) (Nat.zero_le _)
  obtain ⟨c1, c2, c3, c4, c5, c6⟩ := cnt_wdt hk
  have hw := wdt_pos k
  have lt : ∀ C, C * wdt k < 4096 ↔ C < cnt k := fun C => by
    rw [← c1]
    exact ⟨fun h => Nat.lt_of_mul_lt_mul_right h, fun h => Nat.mul_lt_mul_of_pos_right h hw⟩
  refine and_congr ⟨fun h j hj => h1.1 h j (Nat.zero_le _) hj, fun h => h1.2 fun j _ hj => h j hj⟩ ?_
  rw [pl_nil I hk]
  constructor
  · intro h q hS hc
    refine Classical.byContradiction fun hne => ?_
    obtain ⟨_, p2, p3⟩ := cnt_page I B hk q
    exact h (wdt_lt hk) q (I.w.rep.sn hS) ⟨Nat.mul_pos (p2.2 ⟨hS, hc⟩) hw, (lt _).2 ((p3 hS hc).2 hne)⟩
  · intro h _ i hi hc
    obtain ⟨_, p2, p3⟩ := cnt_page I B hk i
    obtain ⟨hS, hck⟩ := p2.1 (Nat.pos_of_mul_pos_right hc.1)
    exact (p3 hS hck).1 ((lt _).1 hc.2) (h i hS hck)

theorem noFit_big (I : SI c x hp S fl L cl fr pl) (B : Book l S L cl fr) (hk : k ≤ x.m.o) : NoFit l x.m.n k (4096 * 2 ^ k) ↔ ∀ j, k ≤ j → j ≤ x.m.o → fl j = [] := by
  unfold NoFit
  have := Nat.two_pow_pos k
  exact ⟨fun h => (nofit_blk I B hk).1 h.1, fun h => ⟨(nofit_blk I B hk).2 h, fun h4 => by omega⟩⟩

theorem dv_cell {q j : Nat} (g : c.Good) (hk : k < 8) : (c.base + ((4096 * q + j * wdt k : Nat) : Int)) % (wdt k : Int) = 0 := by
  have c1 := (cnt_wdt hk).1
  have hb := base4 g
  have d0 : (wdt k : Int) ∣ 4096 := ⟨(cnt k : Int), by rw [← Int.natCast_mul, Nat.mul_comm, c1]; rfl⟩
  have d1 : (wdt k : Int) ∣ c.base := Int.dvd_trans d0 (Int.dvd_of_emod_eq_zero hb)
  have d2 : (wdt k : Int) ∣ ((4096 * q + j * wdt k : Nat) : Int) := by
    rw [Int.natCast_add, Int.natCast_mul, Int.natCast_mul]
    exact Int.dvd_add (Int.dvd_trans d0 (Int.dvd_mul_right _ _)) (Int.dvd_mul_left _ _)
  exact Int.emod_eq_zero_of_dvd (Int.dvd_add d1 d2)

theorem dv_big (I : SI c x hp S fl L cl fr pl) (hk : k ≤ x.m.o) (hq : q % 2 ^ k = 0) : (c.base + ((4096 * q : Nat) : Int)) % ((4096 * 2 ^ k : Nat) : Int) = 0 := by
  have ho : c.order.toNat = x.m.o := by have := I.w.ok.o; omega
  have d0 : ((4096 * 2 ^ k : Nat) : Int) ∣ (c.size : Int) := by
    unfold Cfg.size
    rw [ho]
    exact Int.natCast_dvd_natCast.2 (Nat.mul_dvd_mul_left _ (Nat.pow_dvd_pow 2 hk))
  have d1 := Int.dvd_trans d0 (Int.dvd_of_emod_eq_zero I.w.g.al)
  have d2 : ((4096 * 2 ^ k : Nat) : Int) ∣ ((4096 * q : Nat) : Int) := Int.natCast_dvd_natCast.2 (Nat.mul_dvd_mul_left _ (Nat.dvd_of_mod_eq_zero hq))
  exact Int.emod_eq_zero_of_dvd (Int.dvd_add d1 d2)
end

theorem shl16 {k : Nat} (hk : k < 8) : IntKind.wrap .u64 ((16 : Int) * 2 ^ min (Int.toNat (IntKind.wrap .u64 (k : Int))) (IntKind.bits .u64)) = (wdt k : Int) := by
  rcases k8 hk with rfl | rfl | rfl | rfl | rfl | rfl | rfl | rfl <;> rfl
theorem shl12 {k : Nat} (hk : k ≤ 8) : IntKind.wrap .u64 ((4096 : Int) * 2 ^ min (Int.toNat (IntKind.wrap .u64 (k : Int))) (IntKind.bits .u64)) = ((4096 * 2 ^ k : Nat) : Int) := by
  have : k = 0 ∨ k = 1 ∨ k = 2 ∨ k = 3 ∨ k = 4 ∨ k = 5 ∨ k = 6 ∨ k = 7 ∨ k = 8 := by omega
  rcases this with rfl | rfl | rfl | rfl | rfl | rfl | rfl | rfl | rfl <;> rfl

section
variable {w₀ : World} {h : Heap} {c : Cfg} {wb : Nat} {d : List Value} {Q : SL} {x : BU} {hp : Nat → Int} {S : Nat → Prop} {fl : Nat → List Nat} {L : List PBk} {cl : Nat → Nat} {fr pl : Nat → List Nat} {l : List CE} {bp : Option Addr} {bc : Nat} {K : Value → Heap → Prop}

set_option maxHeartbeats 1000000 in
theorem do7_ok {op nn wh : Int} {deny : Bool} (I : SI c x hp S fl L cl fr pl) (B : Book l S L cl fr) (TT : TabH h (wkR c wb d Q x hp bp bc l)) (H : (wkR c wb d Q x hp bp bc l).P h) (hlen : l.length ≤ 1000) (bn : bd63 nn) (bw : bd63 wh)
    (hK : ∀ x' hp' S' fl' L' cl' fr' pl' Q' l' bp' bc' h', SL.Same Q Q' → SI c x' hp' S' fl' L' cl' fr' pl' → Book l' S' L' cl' fr' → DoOut l l' x.st x'.st → Stp h h' (wkR c wb d Q x hp bp bc l) (wkR c wb d Q' x' hp' bp' bc' l') → K (.tuple #[.slice bp' l'.length bc', .bool true]) h') :
    CallV Tryd.prog w₀ F.croftlaw7_world_do [gptr wb, .slice bp l.length bc, .agg #[.int .i64 op, .int .i64 nn, .int .i64 wh, .bool deny]] h K := by
  have D := B.bd I (by omega)
  have n1 := I.w.ok.m.n1
  have o8 := I.w.ok.m.o8
  have hb := bu_bounds I.w.g I.w.ok.m
  have nr := I.w.nr
  have ho := I.w.ok.o.symm
  unfold bd63 at bn bw
  refine croftlaw7_world_do.call ?_
  unfold croftlaw7_world_do.vc
  have N0 := box_l h [.int .i64 op, .int .i64 nn, .int .i64 wh, .bool deny] T.T_croftlaw7_Deed
  generalize Array.push h (.cells #[.int .i64 op, .int .i64 nn, .int .i64 wh, .bool deny] T.T_croftlaw7_Deed) = h0 at N0 ⊢
  obtain ⟨bx, ebx⟩ : ∃ bx, bx = Array.size h := ⟨_, rfl⟩
  have J0 := ((Own.of H).split).new N0
  rw [← ebx] at J0 ⊢
  have J0 : Go.V.Own h h0 (wkR c wb d Q x hp bp bc l) [lR bx [.int .i64 op, .int .i64 nn, .int .i64 wh, .bool deny], w7R c wb d Q x hp, bkR bp bc c.base l] := J0
  have B0 := J0.at 0
  have H0 := J0.at 1
  have R0 : Row h0 bp (l.length * 3) (ceV c.base l) := sl_row (J0.at 2)
  refine ⟨_, rfl, _, w_c3 H0, _, rfl, ground_Space_ok (s_pl (w_s H0)) ⟨_, rfl, mem_Regions_ok (s_sp (w_s H0)) ⟨_, rfl, fun J4 hJ4 => ?_⟩⟩⟩
  have same : ∀ {st' : Sto}, (∀ e ∈ l, ∀ o, e.a ≤ o → o < e.a + e.n → st'.M o = x.st.M o) → DoOut l l x.st st' := fun hm => ⟨by omega, fun h => by omega, fun _ e he => he, fun e he _ => hm e he⟩
  have main4 : ∀ nv : Nat, (nv : Int) ≤ 9223372036854775807 → J4 [gptr wb, .slice bp l.length bc, .pointer (some ⟨bx, 0, none⟩), .int .i64 (x.st.n : Int), .int .i64 (nv : Int)] h0 := by
    intro nv hnv
    refine hJ4 _ _ _ _ _ _ _ _ ⟨_, cell_l0 B0, fun J5 hJ5 => ?_⟩
    have main5 : ∀ b : Bool, J5 [gptr wb, .slice bp l.length bc, .pointer (some ⟨bx, 0, none⟩), .int .i64 (x.st.n : Int), .int .i64 (nv : Int), .int .i64 op, .bool b] h0 := by
      intro b
      refine hJ5 _ _ _ _ _ _ _ _ _ _ ⟨fun _ => ?_, fun _ => ⟨fun _ => ?_, fun _ J12 hJ12 => ?_⟩⟩
      · -- a cell
        have hk : nv % 8 < 8 := Nat.mod_lt _ (by omega)
        have em : Int.tmod (nv : Int) 8 = ((nv % 8 : Nat) : Int) := by rw [Int.tmod_eq_emod_of_nonneg (by omega)]; omega
        rw [em]
        generalize nv % 8 = k at hk
        rw [shl16 hk]
        refine ⟨by decide, by rw [wU (by unfold U64; omega)]; omega, noFit_ok I.ki H0 D (by omega) R0 (by omega) (.inl ⟨wdt_lt hk, rfl⟩) ⟨_, rfl, _, rfl, _, w_c4 H0, by decide, _, cell_l B0 3, ?_⟩⟩
        have nf := noFit_cell I B hk
        refine takeX I (TT.at J0 1) H0 hk (fun q l' j f hpl hfr x1 hp1 h1 Q1 hQ1 I1 st1 n1' o1 S1 => ?_) (fun hpl hF hd h1 Q1 hQ1 S1 => ?_) (fun hpl q bb fl' x1 hp1 h1 Q1 hQ1 hcase I1 o1 K1 S1 => ?_)
        · have e0 : decide (NoFit l x.m.n 0 (wdt k)) = false := decide_eq_false fun h => by rw [(nf.1 h).2] at hpl; cases hpl
          have J1 := J0.step 1 S1
          obtain ⟨_, _, hS, hck, _⟩ := I.plS hk (p := q) (by rw [hpl]; exact List.mem_cons_self ..)
          obtain ⟨lv1, lv2⟩ := lv_take I hS hfr
          rw [hck] at lv1 lv2
          have hnew := (lv1 _ _).2 (.inr ⟨rfl, rfl⟩)
          have hbd := lv_bd I1 hnew
          have hjc : j < cnt k := by have := (I.nd q hS).2 j (by rw [hfr]; exact List.mem_cons_self ..); rw [hck] at this; exact this
          have hin := cell_in hk hjc
          rw [e0, ← adr_off]
          refine ⟨_, _, _, rfl, _, cell_l (J1.at 0) 3, got_yes (a := 4096 * q + j * wdt k) (r := wdt k) I1.ki (J1.at 1) D (by omega) (sl_row (J1.at 2)) (fun e => by cases e) (by rw [st1]; simp) (wdt_pos k) (dv_cell I.w.g hk) hbd.1
            (no_meet I1 (fun e he => (lv1 _ _).2 (.inl (B.lvs he))) hnew fun e he ea => lv2 e.n (ea ▸ B.lvs he)) (fun _ _ => ?_) fun h2 p2 c2 m hm N2 => ⟨_, _, _, _, rfl, ?_⟩⟩
          · rw [show (4096 * q + j * wdt k) / 4096 = q by omega]
            exact (cnt_page I B hk q).2.1.2 ⟨hS, hck⟩
          · have J2 := J1.new N2
            refine hK x1 hp1 S fl L cl _ _ Q1 _ p2 c2 h2 hQ1 I1 (B.add m (fun r hr => ?_) lv1 lv2) (DoOut.app hm fun e he o _ _ => by rw [st1]) (J2.two 2 0)
            by_cases er : r = q
            · subst er
              rw [fset_same]
              have := B.lv r hr
              rw [hfr] at this
              simp at this
              omega
            · rw [fset_ne _ _ er]; exact B.lv r hr
        · have e0 : decide (NoFit l x.m.n 0 (wdt k)) = true := decide_eq_true (nf.2 ⟨hF, hpl⟩)
          have J1 := J0.step 1 S1
          rw [e0]
          exact ⟨_, _, _, rfl, _, cell_l (J1.at 0) 3, got_no (l := l) (J1.at 1) rfl hd ⟨_, _, _, _, rfl, hK x hp S fl L cl fr pl Q1 l bp bc h1 hQ1 I B (same fun _ _ _ _ _ => rfl) (J1.two 1 2)⟩⟩
        · have e0 : decide (NoFit l x.m.n 0 (wdt k)) = bb := by
            rcases hcase with ⟨rfl, j, l', hj, hF, _⟩ | ⟨rfl, hF, _⟩
            · exact decide_eq_false fun h => by rw [(nf.1 h).1 j hj] at hF; cases hF
            · exact decide_eq_true (nf.2 ⟨hF, hpl⟩)
          have J1 := J0.step 1 S1
          obtain ⟨lv1, lv2⟩ := lv_new I1 I.inL hk rfl
          have hnew := (lv1 _ _).2 (.inr ⟨rfl, rfl⟩)
          have hbd := lv_bd I1 hnew
          rw [e0, show adr c q = c.base + ((4096 * q : Nat) : Int) by unfold adr; omega]
          refine ⟨_, _, _, rfl, _, cell_l (J1.at 0) 3, got_yes (a := 4096 * q) (r := wdt k) I1.ki (J1.at 1) D (by omega) (sl_row (J1.at 2)) (fun e => ?_) ?_ (wdt_pos k) (by have := dv_cell (q := q) (j := 0) I.w.g hk; rwa [Nat.zero_mul, Nat.add_zero] at this) hbd.1
            (no_meet I1 (fun e he => (lv1 _ _).2 (.inl (B.lvs he))) hnew fun e he ea => lv2 e.n (ea ▸ B.lvs he)) (fun _ hmm => ?_) fun h2 p2 c2 m hm N2 => ⟨_, _, _, _, rfl, ?_⟩⟩
          · rcases hcase with ⟨rfl, _⟩ | ⟨_, _, hd, hl, _⟩
            · cases e
            · exact ⟨hd, by omega⟩
          · rcases hcase with ⟨rfl, _, _, _, _, _, _, _, e1⟩ | ⟨rfl, _, _, _, _, _, _, e1⟩
            · rw [e1]; simp
            · rw [e1]; simp
          · rw [show 4096 * q / 4096 = q by omega, no_page I B I1.w] at hmm; cases hmm
          · have J2 := J1.new N2
            refine hK x1 hp1 _ _ _ _ _ _ Q1 _ p2 c2 h2 hQ1 I1 (B.add m (fun r hr => ?_) lv1 lv2) (DoOut.app hm fun e he => keep_e I B K1 e he) (J2.two 2 0)
            by_cases er : r = q
            · subst er
              rw [fset_same, fset_same, List.length_range']
              have := (cnt_wdt hk).2.2.1
              omega
            · rw [fset_ne _ _ er, fset_ne _ _ er]; exact B.lv r (hr.resolve_right er)
      · -- whole pages
        have eo : IntKind.wrap .i64 (c.order + 1) = ((x.m.o + 1 : Nat) : Int) := by rw [wI (by unfold bd63; omega)]; omega
        have em : Int.tmod (nv : Int) ((x.m.o + 1 : Nat) : Int) = ((nv % (x.m.o + 1) : Nat) : Int) := by rw [Int.tmod_eq_emod_of_nonneg (by omega)]; exact (Int.natCast_emod _ _).symm
        refine ⟨_, rfl, _, w_c2 H0, ?_⟩
        rw [eo, em]
        have hk : nv % (x.m.o + 1) ≤ x.m.o := by have := Nat.mod_lt nv (show 0 < x.m.o + 1 by omega); omega
        generalize nv % (x.m.o + 1) = k at hk
        rw [shl12 (by omega)]
        have hp2 := Nat.two_pow_pos k
        have h8 := pow8 (show k ≤ 8 by omega)
        refine ⟨by omega, by rw [wU (by unfold U64; omega)]; omega, noFit_ok I.ki H0 D (by omega) R0 (by omega) (.inr ⟨by omega, rfl⟩) ⟨_, rfl, _, rfl, _, w_c3 H0, _, cell_l B0 3, ?_⟩⟩
        have nf := noFit_big I B hk
        refine needX7 I H0 (fun hb => by omega) (fun on e1 h1 h2 h3 h4 Q1 hQ1 S1 => ?_) (fun on e1 h1 q b fl' x1 h4 Q1 hQ1 hcase I1 o1 K1 S1 => ?_)
        · have e2 : on = k := by omega
          subst e2
          have e0 : decide (NoFit l x.m.n on (4096 * 2 ^ on)) = true := decide_eq_true (nf.2 h2)
          have J1 := J0.step 1 S1
          rw [e0]
          exact ⟨_, _, _, rfl, _, cell_l (J1.at 0) 3, got_no (l := l) (J1.at 1) rfl h3 ⟨_, _, _, _, rfl, hK x hp S fl L cl fr pl Q1 l bp bc h4 hQ1 I B (same fun _ _ _ _ _ => rfl) (J1.two 1 2)⟩⟩
        · have e2 : on = k := by omega
          subst e2
          have e0 : decide (NoFit l x.m.n on (4096 * 2 ^ on)) = b := by
            rcases hcase with ⟨rfl, j, l', hj1, hj, hF, _⟩ | ⟨rfl, hF, _⟩
            · exact decide_eq_false fun h => by rw [nf.1 h j hj1 hj] at hF; cases hF
            · exact decide_eq_true (nf.2 hF)
          have J1 := J0.step 1 S1
          obtain ⟨lv1, lv2⟩ := lv_need I1 I.inL
          have hnew := (lv1 _ _).2 (.inr ⟨rfl, rfl⟩)
          have hbd := lv_bd I1 hnew
          have al := I1.w.al (List.mem_cons_self ..)
          simp only [] at al
          rw [e0, show adr c q = c.base + ((4096 * q : Nat) : Int) by unfold adr; omega]
          refine ⟨_, _, _, rfl, _, cell_l (J1.at 0) 3, got_yes (a := 4096 * q) (r := 4096 * 2 ^ on) I1.ki (J1.at 1) D (by omega) (sl_row (J1.at 2)) (fun e => ?_) ?_ (by omega) (dv_big I hk al.2.1) hbd.1
            (no_meet I1 (fun e he => (lv1 _ _).2 (.inl (B.lvs he))) hnew fun e he ea => lv2 e.n (ea ▸ B.lvs he)) (fun h4 _ => by omega) fun h2 p2 c2 m hm N2 => ⟨_, _, _, _, rfl, ?_⟩⟩
          · rcases hcase with ⟨rfl, _⟩ | ⟨_, _, hd, hl, _⟩
            · cases e
            · exact ⟨hd, by omega⟩
          · rcases hcase with ⟨rfl, _, _, _, _, _, _, _, _, e1⟩ | ⟨rfl, _, _, _, _, _, _, e1⟩
            · rw [e1]; simp
            · rw [e1]; simp
          · exact hK x1 hp _ _ _ _ _ _ Q1 _ p2 c2 h2 hQ1 I1 (B.add m B.lv lv1 lv2) (DoOut.app hm fun e he => keep_e I B K1 e he) ((J1.new N2).two 2 0)
      · have main12 : ∀ g : Bool, J12 [gptr wb, .slice bp l.length bc, .pointer (some ⟨bx, 0, none⟩), .int .i64 (x.st.n : Int), .bool g] h0 := by
          intro g
          refine hJ12 _ _ _ _ _ _ _ _ ⟨fun _ => ⟨fun hl0 => ?_, fun hl0 J14 hJ14 => ?_⟩, fun _ J17 hJ17 L22 hL22 => ?_⟩
          · -- nothing is out
            have hl0 : l = [] := List.eq_nil_of_length_eq_zero (by have := eq_of_beq hl0; omega)
            have no : ∀ q j, S q → j < cnt (cl q) → j ∉ fr q → False := fun q j a1 a2 a3 => by
              obtain ⟨e, he, _⟩ := (B.mem _ _).1 (.inr ⟨q, j, a1, a2, a3, rfl, rfl⟩)
              rw [hl0] at he
              cases he
            refine ⟨_, rfl, _, w_c4 H0, _, rfl, _, w_c0 H0, giveX (by unfold U64; omega) I (TT.at J0 1) H0 (fun _ h1 S1 => ⟨_, rfl, ?_⟩) (fun q j a1 a2 a3 _ => absurd (no q j a1 a2 a3) id) (fun q j _ a1 a2 a3 _ => absurd (no q j a1 a2 a3) id)⟩
            exact hK x hp S fl L cl fr pl Q l bp bc h1 (SL.Same.refl _) I B (same fun _ _ _ _ _ => rfl) ((J0.step 1 S1).two 1 2)
          · -- one is given back
            have hl0 : l.length ≠ 0 := fun h => by have := beq_eq_false_iff_ne.1 hl0; omega
            have go : ∀ i : Nat, i < l.length → J14 [gptr wb, .slice bp l.length bc, .int .i64 (i : Int)] h0 := by
              intro i hi
              have he : l[i]? = some (l.getD i ce0) := by rw [List.getD_eq_getElem?_getD, List.getElem?_eq_getElem hi]; rfl
              obtain ⟨ad, e1, r1, r2, r3⟩ := row_ce R0 hi
              refine hJ14 _ _ _ _ _ _ ⟨ad, e1, by omega, by omega, _, r1, _, r2, _, r3, without7_ok (by omega) R0 fun h1 p1 c1 N1 => ⟨_, _, _, rfl, ?_⟩⟩
              have J1 := J0.new N1
              obtain ⟨ad', e1', r1', r2', r3'⟩ := row_ce (sl_row (J1.at 3)) hi
              have : ad' = ad := by rw [e1] at e1'; cases e1'; rfl
              subst this
              refine ⟨r1', r2', r3', gone_ok I B (TT.at J1 2) (J1.at 2) he fun x1 hp1 S1 fl1 L1 fr1 pl1 h2 I1 B1 n1' o1' s1' hM S2 => ⟨_, rfl, ?_⟩⟩
              have J2 := J1.step 2 S2
              have hle : (l.eraseIdx i).length = l.length - 1 := by rw [List.length_eraseIdx, if_pos hi]
              exact hK x1 hp1 S1 fl1 L1 cl fr1 pl1 Q _ p1 c1 h2 (SL.Same.refl _) I1 B1 ⟨by omega, fun h => by omega, fun _ e h => List.mem_of_mem_eraseIdx h, fun e h _ => hM e h⟩ (J2.two 2 0)
            refine ⟨_, cell_l B0 2, ?_⟩
            by_cases hw : wh > 0
            · obtain ⟨wv, rfl⟩ : ∃ wv : Nat, wh = wv := ⟨wh.toNat, by omega⟩
              refine iT (decide_eq_true hw) ⟨_, cell_l B0 2, by omega, ?_⟩
              rw [show Int.tmod (wv : Int) (l.length : Int) = ((wv % l.length : Nat) : Int) by rw [Int.tmod_eq_emod_of_nonneg (by omega)]; exact (Int.natCast_emod _ _).symm]
              exact go _ (Nat.mod_lt _ (by omega))
            · exact iF (decide_eq_false hw) (go 0 (by omega))
          · -- what is empty at the top goes
            have h8 := pow8 (show x.m.o ≤ 8 by omega)
            have h20 := Nat.two_pow_pos x.m.o
            have hXe := I.w.e
            have hw2 : cellAt h0 ((⟨wb, 0, none⟩ : Addr).add 2) = some (.int .i64 (x.m.o : Int)) := by rw [← ho]; exact w_c2 H0
            have fin : ∀ t : Nat, t ≤ x.st.n → leftE x.m.o l x.st.n = x.st.n - t → J17 [gptr wb, .slice bp l.length bc, .int .i64 (x.st.n : Int), .int .i64 (t : Int)] h0 := by
              intro t ht hleft
              refine hJ17 _ _ _ _ _ _ _ ⟨_, rfl, _, w_c3 H0, trimX I H0 fun x1 fl1 Q1 h1 hQ1 htr I1 o1 hle K1 S1 => ⟨_, rfl, fun J19 hJ19 => ?_⟩⟩
              have e1 := trimF_leftE (l := l) x.st.n fl fun i hi => reg_free7 I B hi
              rw [htr, hleft] at e1
              simp only [] at e1
              have J1 := J0.step 1 S1
              refine qT (beq_iff_eq.2 (by omega)) ⟨_, rfl, _, w_c3 (J1.at 1), _, rfl, ground_Space_ok (s_pl (w_s (J1.at 1))) ⟨_, rfl, mem_Regions_ok (s_sp (w_s (J1.at 1))) ⟨_, rfl, hJ19 _ _ ?_⟩⟩⟩
              rw [wI (z := (x.st.n : Int) - (t : Int)) (by unfold bd63; omega), beq_iff_eq.2 (show (x1.st.n : Int) = (x.st.n : Int) - (t : Int) by omega)]
              exact hK x1 hp S fl1 L cl fr pl Q1 l bp bc h1 hQ1 I1 B (same (keep_e I B K1)) (J1.two 1 2)
            have loop : ∀ r t : Nat, r + t = x.st.n → leftE x.m.o l r = leftE x.m.o l x.st.n → L22 [gptr wb, .slice bp l.length bc, .int .i64 (x.st.n : Int), .int .i64 (t : Int)] h0 := by
              intro r
              induction r with
              | zero =>
                intro t ht hleft
                refine hL22 _ _ _ _ _ _ _ fun J23 hJ23 => qF' (decide_eq_false (by omega)) (hJ23 _ _ (iF rfl (fin t (by omega) (by rw [← hleft]; unfold leftE; omega))))
              | succ r ih =>
                intro t ht hleft
                have hmul : (r + 1 + t) * 2 ^ x.m.o = r * 2 ^ x.m.o + (t + 1) * 2 ^ x.m.o := by rw [← Nat.add_mul]; congr 1; omega
                rw [ht, ← hXe] at hmul
                refine hL22 _ _ _ _ _ _ _ fun J23 hJ23 => qT (decide_eq_true (by omega)) ⟨_, rfl, _, w_c3 H0, _, rfl, _, rfl, _, hw2, ?_⟩
                refine ⟨by rw [wU (by unfold U64; omega)]; omega, _, rfl, _, hw2, by rw [wU (by unfold U64; omega)]; omega, ground_Space_ok (s_pl (w_s H0)) ⟨_, rfl, hw2, hw2, w_end I.ki H0 ⟨_, rfl, hw2, hw2, ?_⟩⟩⟩
                have e1 : IntKind.wrap .u64 (IntKind.wrap .i64 ((t : Int) + 1)) = ((t + 1 : Nat) : Int) := by rw [wI (by unfold bd63; omega), wU (by unfold U64; omega)]; omega
                have e2 : ((t + 1 : Nat) : Int) * ((4096 * 2 ^ x.m.o : Nat) : Int) = ((4096 * ((t + 1) * 2 ^ x.m.o) : Nat) : Int) := by rw [← Int.natCast_mul, Nat.mul_left_comm]
                rw [shl12 o8, e1, e2]
                generalize (t + 1) * 2 ^ x.m.o = y at hmul ⊢
                generalize hz : r * 2 ^ x.m.o = z at hmul
                rw [wU (z := ((4096 * y : Nat) : Int)) (by unfold U64; omega), wU (z := c.base + ((4096 * x.m.n : Nat) : Int) - ((4096 * y : Nat) : Int)) (by unfold U64; omega), show c.base + ((4096 * x.m.n : Nat) : Int) - ((4096 * y : Nat) : Int) = c.base + ((4096 * z : Nat) : Int) by omega]
                refine meets7_ok D R0 (by omega) (by omega) ⟨_, rfl, hJ23 _ _ ?_⟩
                rw [← hz]
                rw [show leftE x.m.o l (r + 1) = if meetsE l (4096 * (r * 2 ^ x.m.o)) (4096 * 2 ^ x.m.o) = false then leftE x.m.o l r else r + 1 from rfl] at hleft
                cases hm : meetsE l (4096 * (r * 2 ^ x.m.o)) (4096 * 2 ^ x.m.o) with
                | false =>
                  rw [if_pos hm] at hleft
                  rw [show IntKind.wrap .i64 ((t : Int) + 1) = ((t + 1 : Nat) : Int) by rw [IntKind.wrap_i64]; omega]
                  exact iT rfl (ih (t + 1) (by omega) hleft)
                | true =>
                  rw [if_neg (by rw [hm]; decide)] at hleft
                  exact iF rfl (fin t (by omega) (by omega))
            exact loop x.st.n 0 (by omega) rfl
        exact ⟨fun _ => main12 _, fun _ => main12 _⟩
    exact ⟨fun _ => main5 _, fun _ => ⟨fun _ => main5 _, fun _ => main5 _⟩⟩
  refine ⟨_, cell_l B0 1, ?_⟩
  by_cases hpos : nn > 0
  · obtain ⟨nv, rfl⟩ : ∃ nv : Nat, nn = nv := ⟨nn.toNat, by omega⟩
    exact iT (decide_eq_true hpos) ⟨_, cell_l B0 1, main4 nv (by omega)⟩
  · exact iF (decide_eq_false hpos) (main4 0 (by omega))
end
end Go.Proofs.YteemmpkhdllapaaDoor
