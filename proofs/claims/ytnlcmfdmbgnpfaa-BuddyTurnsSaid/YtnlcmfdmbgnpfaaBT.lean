/- croftlaw5: tiled. No condition. -/
import Derived.Test.YtnlcmfdmbgnpfaaBO
set_option linter.unusedSimpArgs false
set_option linter.unusedVariables false
namespace Go.Proofs.Ytnlcmfdmbgnpfaa
open Go.V Classical

/-- How often a page was seen: once, or not yet. -/
noncomputable def seenF (A : Nat → Prop) : Nat → Value := fun q => .int .i64 (if A q then 1 else 0)
def intF (G : Nat → Int) : Nat → Value := fun q => .int .i64 (G q)

theorem seenF_congr {A B : Nat → Prop} (h : ∀ q, A q ↔ B q) : seenF A = seenF B := by
  have : A = B := funext fun q => propext (h q)
  rw [this]

section
variable {h : Heap} {sp : Option Addr} {P cap q : Nat} {A : Nat → Prop} {G : Nat → Int}

theorem seen_inc (H : (slR sp P cap 1 (seenF A)).P h) (hq : q < P) (hA : ¬ A q) : ∃ b, sp = some ⟨b, 0, none⟩ ∧ cellAt h ⟨b, q, none⟩ = some (.int .i64 0) ∧ Wr h ⟨b, q, none⟩ ∧
    Stp h (setC h ⟨b, q, none⟩ (.int .i64 1)) (slR sp P cap 1 (seenF A)) (slR sp P cap 1 (seenF fun y => A y ∨ y = q)) := by
  obtain ⟨b, e, hc⟩ := sl_cell H (i := q) (by omega)
  obtain ⟨b', e', hw, S⟩ := sl_set H (o := q) (by omega) (.int .i64 1)
  rw [e] at e'
  cases e'
  refine ⟨b, e, ?_, hw, S.conv (fun A' => sl_congr A' fun i hi => ?_) fun _ e => e⟩
  · rw [hc]; unfold seenF; rw [if_neg hA]
  · show (if i = q then Value.int .i64 1 else seenF A i) = seenF _ i
    unfold seenF
    by_cases e : i = q
    · rw [if_pos e, if_pos (Or.inr e)]
    · rw [if_neg e]
      by_cases a : A i
      · rw [if_pos a, if_pos (Or.inl a)]
      · rw [if_neg a, if_neg (by rintro (h | h); exact a h; exact e h)]

theorem int_set (H : (slR sp P cap 1 (intF G)).P h) (hq : q < P) (v : Int) : ∃ b, sp = some ⟨b, 0, none⟩ ∧ Wr h ⟨b, q, none⟩ ∧
    Stp h (setC h ⟨b, q, none⟩ (.int .i64 v)) (slR sp P cap 1 (intF G)) (slR sp P cap 1 (intF fun y => if y = q then v else G y)) := by
  obtain ⟨b', e', hw, S⟩ := sl_set H (o := q) (by omega) (.int .i64 v)
  refine ⟨b', e', hw, S.conv (fun A' => sl_congr A' fun i hi => ?_) fun _ e => e⟩
  show (if i = q then Value.int .i64 v else .int .i64 (G i)) = .int .i64 (if i = q then v else G i)
  split <;> rfl
end

/-- The pages of some blocks. -/
def In (bs : List PBk) (q : Nat) : Prop := ∃ b ∈ bs, Cov b q

theorem In.nil (q : Nat) : ¬ In [] q := fun ⟨b, hb, _⟩ => by cases hb
theorem In.snoc {bs : List PBk} {b : PBk} {q : Nat} : In (bs ++ [b]) q ↔ In bs q ∨ Cov b q := by
  unfold In
  constructor
  · rintro ⟨a, ha, hc⟩
    rcases List.mem_append.1 ha with h | h
    · exact .inl ⟨a, h, hc⟩
    · rw [List.mem_singleton.1 h] at hc; exact .inr hc
  · rintro (⟨a, ha, hc⟩ | hc)
    · exact ⟨a, List.mem_append_left _ ha, hc⟩
    · exact ⟨b, by simp, hc⟩

theorem not_in {O P : Nat} {pre post : List PBk} {b : PBk} (H : Tile O P (pre ++ b :: post)) {q : Nat} (hc : Cov b q) : ¬ In pre q := by
  rintro ⟨a, ha, hac⟩
  have := (List.pairwise_append.1 H.dj).2.2 a ha b (List.mem_cons_self ..)
  unfold Dj at this
  unfold Cov at hc hac
  omega

/-- The blocks of the lesser orders. -/
def blksTo (fl : Nat → List Nat) (o : Nat) : List PBk := (List.range o).flatMap fun k => (fl k).map fun p => (p, k)

theorem blksTo_top (fl : Nat → List Nat) (O : Nat) : blksTo fl (O + 1) = blks O fl := rfl
theorem blksTo_succ (fl : Nat → List Nat) (o : Nat) : blksTo fl (o + 1) = blksTo fl o ++ (fl o).map fun p => (p, o) := by
  unfold blksTo; rw [List.range_succ, List.flatMap_append]; simp

theorem blksTo_pre (fl : Nat → List Nat) {o O : Nat} (h : o ≤ O) : ∃ post, blks O fl = blksTo fl o ++ post := by
  obtain ⟨d, rfl⟩ : ∃ d, O = o + d := ⟨O - o, by omega⟩
  induction d with
  | zero => exact ⟨(fl o).map fun p => (p, o), by rw [← blksTo_top]; exact blksTo_succ fl o⟩
  | succ d ih =>
    obtain ⟨post, e⟩ := ih (by omega)
    refine ⟨post ++ (fl (o + d + 1)).map fun p => (p, o + d + 1), ?_⟩
    rw [← blksTo_top, show o + (d + 1) + 1 = (o + d + 1) + 1 by omega, blksTo_succ, blksTo_top, e, List.append_assoc]

/-- Which blocks begin where. -/
def Beg (fl : Nat → List Nat) (o i : Nat) (G : Nat → Int) : Prop := ∀ q k : Nat, G q = (k : Int) + 1 ↔ (k < o ∧ q ∈ fl k) ∨ (k = o ∧ q ∈ (fl o).take i)

theorem take_snoc {l : List Nat} {i : Nat} (hi : i < l.length) : l.take (i + 1) = l.take i ++ [l.getD i 0] := by
  rw [List.take_add_one, List.getD_eq_getElem?_getD, List.getElem?_eq_getElem hi]; rfl

theorem getD_mem {l : List Nat} {i : Nat} (hi : i < l.length) : l.getD i 0 ∈ l := by
  rw [List.getD_eq_getElem?_getD, List.getElem?_eq_getElem hi]; exact List.getElem_mem hi

section
variable {w₀ : World} {h : Heap} {K : Value → Heap → Prop} {c : Cfg} {Q : WW} {x : BU} {fl : Nat → List Nat} {l : List Bk} {bp : Option Addr} {bc : Nat}

theorem Beg.put {o i : Nat} {G : Nat → Int} (W : WI c x fl (lvB l)) (ho : o ≤ x.m.o) (B : Beg fl o i G) (hi : i < (fl o).length) : Beg fl o (i + 1) fun y => if y = (fl o).getD i 0 then (o : Int) + 1 else G y := by
  intro q k
  have hm := getD_mem hi
  rw [take_snoc hi]
  generalize (fl o).getD i 0 = p at hm
  simp only [List.mem_append, List.mem_singleton]
  by_cases e : q = p
  · subst e
    rw [if_pos rfl]
    constructor
    · intro hk
      exact .inr ⟨by omega, .inr rfl⟩
    · rintro (⟨hk, hq⟩ | ⟨hk, _⟩)
      · have := W.rep.one ho (Nat.le_of_lt (Nat.lt_of_lt_of_le hk ho)) hm hq
        omega
      · omega
  · rw [if_neg e, B q k]
    constructor
    · rintro (h | ⟨h1, h2⟩)
      · exact .inl h
      · exact .inr ⟨h1, .inl h2⟩
    · rintro (h | ⟨h1, h2 | h2⟩)
      · exact .inl h
      · exact .inr ⟨h1, h2⟩
      · exact absurd h2 e

theorem Beg.next {o : Nat} {G : Nat → Int} (B : Beg fl o (fl o).length G) : Beg fl (o + 1) 0 G := by
  intro q k
  rw [B q k, List.take_length]
  constructor
  · rintro (⟨h1, h2⟩ | ⟨rfl, h2⟩)
    · exact .inl ⟨by omega, h2⟩
    · exact .inl ⟨by omega, h2⟩
  · rintro (⟨h1, h2⟩ | ⟨_, h2⟩)
    · rcases Nat.lt_or_ge k o with h | h
      · exact .inl ⟨h, h2⟩
      · have : k = o := by omega
        subst this; exact .inr ⟨rfl, h2⟩
    · cases h2

theorem wb_cell (H : (wbR c Q x bp bc l).P h) {i : Nat} (hi : i < 10) : cellAt h ((⟨Q.wb, 0, none⟩ : Addr).add i) = some (wF c Q x.m.o x.m.n x.st.n i) := wd_cell H.1 hi

theorem tiled_ok (W : WI c x fl (lvB l)) (hl : l.length ≤ 100000) (H : (wbR c Q x bp bc l).P h) (hK : ∀ h', Stp h h' (wbR c Q x bp bc l) (wbR c Q x bp bc l) → K (.bool true) h') :
    CallV Try.prog w₀ F.croftlaw5_tiled [.pointer (some ⟨Q.wb, 0, none⟩), bkv bp l.length bc] h K := by
  refine croftlaw5_tiled.call ?_
  unfold croftlaw5_tiled.vc
  have o8 := W.ok.m.o8
  have n1 := W.ok.m.n1
  have hxo := W.ok.o
  have hbn := W.bnd
  have N1 := box1 h (.slice bp l.length bc) T.T_croftlaw5_book
  generalize Array.push h (.cells #[.slice bp l.length bc] T.T_croftlaw5_book) = h1 at N1 ⊢
  obtain ⟨b0, eb0⟩ : ∃ b0, b0 = h.size := ⟨_, rfl⟩
  rw [← eb0] at N1 ⊢
  have I1 := (Go.V.Own.of H).new N1
  refine ⟨_, rfl, _, wb_cell (I1.at 1) (i := 7) (by omega), by omega, Int.le_refl _, by omega, ?_⟩
  have N2 := sl_make h1 [.int .i64 0] T.T_int x.m.n x.m.n (Nat.le_refl _)
  have N2' : New h1 (h1.push (.cells (List.toArray (zrow [.int .i64 0] x.m.n)) T.T_int)) (slR (some ⟨h1.size, 0, none⟩) x.m.n x.m.n 1 (seenF (In []))) :=
    N2.conv (fun A => sl_congr A fun i hi => by
      show ([.int .i64 0] : List Value).getD (i % 1) undef = _
      rw [Nat.mod_one]; unfold seenF; rw [if_neg (In.nil i)]; rfl) fun _ e => e
  clear N2
  rw [Int.toNat_natCast]
  generalize h1.push (.cells (List.toArray (zrow [.int .i64 0] x.m.n)) T.T_int) = h2 at N2' ⊢
  intro J3 hJ3 L26 hL26
  obtain ⟨sb, esb⟩ : ∃ sb, sb = h1.size := ⟨_, rfl⟩
  rw [← esb] at N2' ⊢
  have I2 := I1.new N2'
  have addq : ∀ (b q : Nat), (⟨b, 0, none⟩ : Addr).add (Int.toNat (q : Int) * 1) = ⟨b, q, none⟩ := fun b q => by simp only [add_mk, Int.toNat_natCast, Nat.mul_one, Nat.zero_add]
  have w01 : IntKind.wrap .i64 ((0 : Int) + 1) = 1 := by decide
  have ewk : ∀ k : Nat, k ≤ 8 → IntKind.wrap .u64 (k : Int) = (k : Int) := fun k hk => by rw [IntKind.wrap_u64]; omega
  have rest : ∀ hx : Heap, Go.V.Own h hx (wbR c Q x bp bc l) [slR (some ⟨sb, 0, none⟩) x.m.n x.m.n 1 (seenF (In (lvB l))), blkR b0 1 fun _ => .slice bp l.length bc, wbR c Q x bp bc l] →
      J3 [.pointer (some ⟨Q.wb, 0, none⟩), .slice (some ⟨sb, 0, none⟩) x.m.n x.m.n] hx := by
    intro hx I
    have I : Go.V.Own h hx (wbR c Q x bp bc l) [slR (some ⟨sb, 0, none⟩) x.m.n x.m.n 1 (seenF (In (lvB l))), wbR c Q x bp bc l] := I.sub (.cons_cons _ (.cons _ (.cons_cons _ .slnil)))
    refine hJ3 _ _ _ _ _ ⟨_, rfl, _, wb_cell (I.at 1) (i := 7) (by omega), by omega, Int.le_refl _, by omega, ?_⟩
    have N3 := sl_make hx [.int .i64 0] T.T_int x.m.n x.m.n (Nat.le_refl _)
    have N3' : New hx (hx.push (.cells (List.toArray (zrow [.int .i64 0] x.m.n)) T.T_int)) (slR (some ⟨hx.size, 0, none⟩) x.m.n x.m.n 1 (intF fun _ => 0)) :=
      N3.conv (fun A => sl_congr A fun i hi => by
        show ([.int .i64 0] : List Value).getD (i % 1) undef = _
        rw [Nat.mod_one]; rfl) fun _ e => e
    clear N3
    rw [Int.toNat_natCast]
    generalize hx.push (.cells (List.toArray (zrow [.int .i64 0] x.m.n)) T.T_int) = h3 at N3' ⊢
    intro J5 hJ5 L15 hL15
    obtain ⟨fb, efb⟩ : ∃ fb, fb = hx.size := ⟨_, rfl⟩
    rw [← efb] at N3' ⊢
    have I3 := I.new N3'
    -- the last look
    have last : ∀ (G : Nat → Int) (hy : Heap), Beg fl (x.m.o + 1) 0 G → Go.V.Own h hy (wbR c Q x bp bc l) [slR (some ⟨fb, 0, none⟩) x.m.n x.m.n 1 (intF G), slR (some ⟨sb, 0, none⟩) x.m.n x.m.n 1 (seenF (In (lvB l ++ blks x.m.o fl))), wbR c Q x bp bc l] →
        J5 [.pointer (some ⟨Q.wb, 0, none⟩), .slice (some ⟨sb, 0, none⟩) x.m.n x.m.n, .slice (some ⟨fb, 0, none⟩) x.m.n x.m.n] hy := by
      intro G hy hG I
      refine hJ5 _ _ _ _ _ _ _ _ fun J6 hJ6 L14 hL14 => ?_
      have pairs : J6 [.pointer (some ⟨Q.wb, 0, none⟩), .slice (some ⟨fb, 0, none⟩) x.m.n x.m.n] hy := by
        refine hJ6 _ _ _ _ _ fun J7 hJ7 L8 hL8 => ?_
        have outer : ∀ (d o : Nat) (hz : Heap), o + d = x.m.o → Go.V.Own h hz (wbR c Q x bp bc l) [slR (some ⟨fb, 0, none⟩) x.m.n x.m.n 1 (intF G), slR (some ⟨sb, 0, none⟩) x.m.n x.m.n 1 (seenF (In (lvB l ++ blks x.m.o fl))), wbR c Q x bp bc l] →
            L8 [.pointer (some ⟨Q.wb, 0, none⟩), .slice (some ⟨fb, 0, none⟩) x.m.n x.m.n, .int .i64 (o : Int)] hz := by
          intro d
          induction d with
          | zero =>
            intro o hz ho I
            have hc2 : cellAt hz ((⟨Q.wb, 0, none⟩ : Addr).add 2) = some (.int .i64 (x.m.o : Int)) := by have := wb_cell (I.at 2) (i := 2) (by omega); rw [hxo]; exact this
            exact hL8 _ _ _ _ _ _ ⟨_, rfl, _, hc2, iF (decide_eq_false (by omega)) (hJ7 _ (hK _ (I.one 2)))⟩
          | succ d ih =>
            intro o hz ho I
            have hc2 : cellAt hz ((⟨Q.wb, 0, none⟩ : Addr).add 2) = some (.int .i64 (x.m.o : Int)) := by have := wb_cell (I.at 2) (i := 2) (by omega); rw [hxo]; exact this
            refine hL8 _ _ _ _ _ _ ⟨_, rfl, _, hc2, iT (decide_eq_true (by omega)) fun J9 hJ9 L10 hL10 => ?_⟩
            have ho8 : o ≤ 8 := by omega
            have h8 := pow8 ho8
            have e2 : 2 ^ (o + 1) = 2 ^ o + 2 ^ o := by rw [Nat.pow_succ]; omega
            have wo1 : IntKind.wrap .i64 ((o : Int) + 1) = (o : Int) + 1 := by rw [IntKind.wrap_i64]; omega
            have inner : ∀ (d2 t : Nat) (hv : Heap), x.m.n ≤ t * 2 ^ (o + 1) + d2 → t * 2 ^ (o + 1) ≤ x.m.n + 1024 → Go.V.Own h hv (wbR c Q x bp bc l) [slR (some ⟨fb, 0, none⟩) x.m.n x.m.n 1 (intF G), slR (some ⟨sb, 0, none⟩) x.m.n x.m.n 1 (seenF (In (lvB l ++ blks x.m.o fl))), wbR c Q x bp bc l] →
                L10 [.pointer (some ⟨Q.wb, 0, none⟩), .slice (some ⟨fb, 0, none⟩) x.m.n x.m.n, .int .i64 (o : Int), .int .i64 ((t * 2 ^ (o + 1) : Nat) : Int)] hv := by
              intro d2
              induction d2 with
              | zero =>
                intro t hv ht hle I
                have c7 := wb_cell (I.at 2) (i := 7) (by omega)
                refine hL10 _ _ _ _ _ _ _ ⟨_, rfl, _, c7, iF (decide_eq_false (by omega)) (hJ9 _ _ _ _ _ _ ?_)⟩
                rw [wo1]
                exact ih (o + 1) hv (by omega) I
              | succ d2 ih2 =>
                intro t hv ht hle I
                have c7 := wb_cell (I.at 2) (i := 7) (by omega)
                by_cases hlt : t * 2 ^ (o + 1) < x.m.n
                case neg =>
                  refine hL10 _ _ _ _ _ _ _ ⟨_, rfl, _, c7, iF (decide_eq_false (by omega)) (hJ9 _ _ _ _ _ _ ?_)⟩
                  rw [wo1]
                  exact ih (o + 1) hv (by omega) I
                have hst := stretch W (k := o + 1) (by omega) hlt
                have hmod : t * 2 ^ (o + 1) % 2 ^ (o + 1) = 0 := Nat.mul_mod_left _ _
                have hmod' : t * 2 ^ (o + 1) % 2 ^ o = 0 := Nat.mod_eq_zero_of_dvd (Nat.dvd_trans (Nat.pow_dvd_pow 2 (by omega)) (Nat.dvd_mul_left _ _))
                have hnx : (t + 1) * 2 ^ (o + 1) = t * 2 ^ (o + 1) + (2 ^ o + 2 ^ o) := by rw [Nat.succ_mul, e2]
                have hgoal : ∀ hv', Go.V.Own h hv' (wbR c Q x bp bc l) [slR (some ⟨fb, 0, none⟩) x.m.n x.m.n 1 (intF G), slR (some ⟨sb, 0, none⟩) x.m.n x.m.n 1 (seenF (In (lvB l ++ blks x.m.o fl))), wbR c Q x bp bc l] → L10 [.pointer (some ⟨Q.wb, 0, none⟩), .slice (some ⟨fb, 0, none⟩) x.m.n x.m.n, .int .i64 (o : Int), .int .i64 (((t + 1) * 2 ^ (o + 1) : Nat) : Int)] hv' := fun hv' I' => ih2 (t + 1) hv' (by rw [hnx]; omega) (by rw [hnx]; omega) I'
                generalize hpp : t * 2 ^ (o + 1) = p at hlt hst hmod hmod' hnx ht hle
                have hbud : bud p o = p + 2 ^ o := by
                  rcases (bud_facts hmod').2 with ⟨h1, _⟩ | ⟨h1, _, h3⟩
                  · exact h1
                  · exfalso
                    have h4 : (p - bud p o) % 2 ^ (o + 1) = 0 := Nat.mod_eq_zero_of_dvd (Nat.dvd_sub (Nat.dvd_of_mod_eq_zero hmod) (Nat.dvd_of_mod_eq_zero h3))
                    have h5 : p - bud p o = 2 ^ o := by omega
                    rw [h5, Nat.mod_eq_of_lt (by omega)] at h4
                    omega
                have hbit := W.rep.bt o p (by omega) hmod' hlt
                have hnb := W.rep.nb o p (by omega)
                rw [hbud] at hbit hnb
                have g1 := hG p o
                have g2 := hG (p + 2 ^ o) o
                have hg1 : (G p = (o : Int) + 1) ↔ p ∈ fl o := by rw [g1]; exact ⟨fun h => h.elim (·.2) fun h => absurd h.1 (by omega), fun h => .inl ⟨by omega, h⟩⟩
                have hg2 : (G (p + 2 ^ o) = (o : Int) + 1) ↔ p + 2 ^ o ∈ fl o := by rw [g2]; exact ⟨fun h => h.elim (·.2) fun h => absurd h.1 (by omega), fun h => .inl ⟨by omega, h⟩⟩
                obtain ⟨fb', e1, v1⟩ := sl_cell (I.at 0) (i := p) (by omega)
                cases e1
                obtain ⟨fb', e1, v2⟩ := sl_cell (I.at 0) (i := p + 2 ^ o) (by omega)
                cases e1
                have v1 : cellAt hv ⟨fb, p, none⟩ = some (.int .i64 (G p)) := v1
                have v2 : cellAt hv ⟨fb, p + 2 ^ o, none⟩ = some (.int .i64 (G (p + 2 ^ o))) := v2
                have es : IntKind.wrap .i64 ((p : Int) + IntKind.wrap .i64 ((1 : Int) * 2 ^ min (Int.toNat (IntKind.wrap .u64 (o : Int))) (IntKind.bits .i64))) = ((p + 2 ^ o : Nat) : Int) := by rw [ewk _ ho8, shl1 ho8, IntKind.wrap_i64]; omega
                have es2 : IntKind.wrap .i64 ((2 : Int) * 2 ^ min (Int.toNat (o : Int)) (IntKind.bits .i64)) = ((2 ^ o + 2 ^ o : Nat) : Int) := by
                  have : o = 0 ∨ o = 1 ∨ o = 2 ∨ o = 3 ∨ o = 4 ∨ o = 5 ∨ o = 6 ∨ o = 7 ∨ o = 8 := by omega
                  rcases this with rfl | rfl | rfl | rfl | rfl | rfl | rfl | rfl | rfl <;> decide
                refine hL10 _ _ _ _ _ _ _ ⟨_, rfl, _, c7, iT (decide_eq_true (by omega)) ⟨_, rfl, by omega, by omega, _, by rw [addq]; exact v1, by rw [ewk _ ho8]; omega, _, rfl, ?_⟩⟩
                rw [es, wo1]
                refine ⟨by omega, by omega, _, by rw [addq]; exact v2, fun J11 hJ11 => ?_⟩
                have go : J11 false hv := by
                  refine hJ11 _ _ fun J12 hJ12 => pF rfl ⟨_, rfl, _, wb_cell (I.at 2) (i := 4) (by omega), ?_⟩
                  have HB : (wbR c Q x bp bc l).P hv := I.at 2
                  refine pm_Pair_ok W.ok.m (bu_map (wd_bu HB.1)) (fun k m hk _ hm _ h9 u9 => ⟨_, rfl, hJ12 _ _ (iF ?_ ⟨by rw [ewk _ ho8]; omega, ?_⟩)⟩) fun hn => absurd ⟨by omega, by omega, by omega, by omega⟩ hn
                  · have hk : k = o := by omega
                    have hm : m = p := by omega
                    subst hk hm
                    rw [hbit]
                    by_cases a : m ∈ fl k <;> by_cases b : m + 2 ^ k ∈ fl k
                    · exact absurd b (hnb a)
                    · rw [hg1.2 a, beq_self_eq_true, beq_false_of_ne (fun e => b (hg2.1 e)), decide_eq_true a, decide_eq_false b]; rfl
                    · rw [hg2.2 b, beq_self_eq_true, beq_false_of_ne (fun e => a (hg1.1 e)), decide_eq_false a, decide_eq_true b]; rfl
                    · rw [beq_false_of_ne (fun e => b (hg2.1 e)), beq_false_of_ne (fun e => a (hg1.1 e)), decide_eq_false a, decide_eq_false b]; rfl
                  · rw [ewk _ ho8, es2, show IntKind.wrap .i64 ((p : Int) + ((2 ^ o + 2 ^ o : Nat) : Int)) = ((p + (2 ^ o + 2 ^ o) : Nat) : Int) by rw [IntKind.wrap_i64]; omega, ← hnx]
                    exact hgoal h9 (I.quiet u9)
                by_cases a : p ∈ fl o
                · refine qT (by rw [hg1.2 a]; exact beq_self_eq_true _) ?_
                  rw [beq_false_of_ne (fun e => hnb a (hg2.1 e))]
                  exact go
                · exact qF' (beq_false_of_ne fun e => a (hg1.1 e)) go
            have := inner x.m.n 0 hz (by omega) (by omega) I
            rw [Nat.zero_mul] at this
            exact this
        exact outer x.m.o 0 hy (by omega) I
      have look : ∀ (d i : Nat), i + d = x.m.n → L14 [.pointer (some ⟨Q.wb, 0, none⟩), .slice (some ⟨sb, 0, none⟩) x.m.n x.m.n, .slice (some ⟨fb, 0, none⟩) x.m.n x.m.n, .int .i64 (i : Int)] hy := by
        intro d
        induction d with
        | zero =>
          intro i hi
          exact hL14 _ _ _ _ _ _ _ _ _ (iF (decide_eq_false (by omega)) pairs)
        | succ d ih =>
          intro i hi
          obtain ⟨sb', e1, v1⟩ := sl_cell (I.at 1) (i := i) (by omega)
          cases e1
          obtain ⟨b, hb, hcv⟩ := W.til.cv i (by omega)
          have hin : In (lvB l ++ blks x.m.o fl) i := ⟨b, hb, hcv⟩
          unfold seenF at v1
          rw [if_pos hin] at v1
          refine hL14 _ _ _ _ _ _ _ _ _ (iT (decide_eq_true (by omega)) ⟨_, rfl, by omega, by omega, 1, by rw [addq]; exact v1, iF rfl ?_⟩)
          rw [show IntKind.wrap .i64 ((i : Int) + 1) = ((i + 1 : Nat) : Int) by rw [IntKind.wrap_i64]; omega]
          exact ih (i + 1) (by omega)
      exact look x.m.n 0 (by omega)
    -- the free ones
    have frees : ∀ (d o : Nat) (G : Nat → Int) (hy : Heap), o + d = x.m.o + 1 → Beg fl o 0 G → Go.V.Own h hy (wbR c Q x bp bc l) [slR (some ⟨fb, 0, none⟩) x.m.n x.m.n 1 (intF G), slR (some ⟨sb, 0, none⟩) x.m.n x.m.n 1 (seenF (In (lvB l ++ blksTo fl o))), wbR c Q x bp bc l] →
        L15 [.pointer (some ⟨Q.wb, 0, none⟩), .slice (some ⟨sb, 0, none⟩) x.m.n x.m.n, .slice (some ⟨fb, 0, none⟩) x.m.n x.m.n, .int .i64 (o : Int)] hy := by
      intro d
      induction d with
      | zero =>
        intro o G hy ho hG I
        have ho : o = x.m.o + 1 := by omega
        subst ho
        have hc2 : cellAt hy ((⟨Q.wb, 0, none⟩ : Addr).add 2) = some (.int .i64 (x.m.o : Int)) := by have := wb_cell (I.at 2) (i := 2) (by omega); rw [hxo]; exact this
        exact hL15 _ _ _ _ _ _ _ _ _ ⟨_, rfl, _, hc2, iF (decide_eq_false (by omega)) (last G hy hG I)⟩
      | succ d ih =>
        intro o G hy ho hG I
        have hc2 : cellAt hy ((⟨Q.wb, 0, none⟩ : Addr).add 2) = some (.int .i64 (x.m.o : Int)) := by have := wb_cell (I.at 2) (i := 2) (by omega); rw [hxo]; exact this
        have hoo : o ≤ x.m.o := by omega
        have ho8 : o ≤ 8 := by omega
        have h8 := pow8 ho8
        have HB : (wbR c Q x bp bc l).P hy := I.at 2
        refine hL15 _ _ _ _ _ _ _ _ _ ⟨_, rfl, _, hc2, iT (decide_eq_true (by omega)) fun J16 hJ16 => ⟨_, rfl, _, wb_cell HB (i := 5) (by omega), ?_⟩⟩
        refine freeW W HB.1 hoo fun h7 p7 c7 S7 => ⟨_, _, _, rfl, fun L18 hL18 => ?_⟩
        have S7' : Stp hy h7 (wbR c Q x bp bc l) (andR (slR p7 ((fl o).map (adr c)).length c7 1 (uL ((fl o).map (adr c)))) (wbR c Q x bp bc l)) := by
          have A := S7.left HB
          refine A.conv (fun P => ⟨P.1.2.1, ⟨P.1.1, P.2.1, fun b e e' => P.2.2 b (.inl e) e'⟩, fun b e e' => ?_⟩) fun b e => ?_
          · rcases e' with e' | e'
            · exact P.1.2.2 b e' e
            · exact P.2.2 b (.inr e) e'
          · rcases e with e | e | e
            · exact .inl (.inr e)
            · exact .inl (.inl e)
            · exact .inr e
        have I7 := I.step 2 S7'
        have I7 : Go.V.Own h h7 (wbR c Q x bp bc l) [slR (some ⟨fb, 0, none⟩) x.m.n x.m.n 1 (intF G), slR (some ⟨sb, 0, none⟩) x.m.n x.m.n 1 (seenF (In (lvB l ++ blksTo fl o))), slR p7 ((fl o).map (adr c)).length c7 1 (uL ((fl o).map (adr c))), wbR c Q x bp bc l] := by
          have I8 := I7.perm (show [_, _, _].Perm _ from (List.perm_append_comm (l₁ := [_, _]) (l₂ := [_])).symm)
          have I9 := I8.split
          exact I9.perm (show [_, _, _, _].Perm _ from (List.perm_append_comm (l₁ := [_, _]) (l₂ := [_, _])))
        have hflen : ((fl o).map (adr c)).length = (fl o).length := by simp
        rw [hflen] at I7 ⊢
        have hfl4 : (fl o).length ≤ 1024 := by
          have h1 := W.rep.ls o hoo
          have h2 := pages_len h1.nd h1.cl
          rw [hflen] at h2; omega
        have each : ∀ (k i : Nat) (G : Nat → Int) (hz : Heap), i + k = (fl o).length → Beg fl o i G → Go.V.Own h hz (wbR c Q x bp bc l) [slR (some ⟨fb, 0, none⟩) x.m.n x.m.n 1 (intF G), slR (some ⟨sb, 0, none⟩) x.m.n x.m.n 1 (seenF (In (lvB l ++ (blksTo fl o ++ ((fl o).take i).map fun p => (p, o))))), slR p7 (fl o).length c7 1 (uL ((fl o).map (adr c))), wbR c Q x bp bc l] →
            L18 [.pointer (some ⟨Q.wb, 0, none⟩), .slice (some ⟨sb, 0, none⟩) x.m.n x.m.n, .slice (some ⟨fb, 0, none⟩) x.m.n x.m.n, .int .i64 (o : Int), .slice p7 (fl o).length c7, .int .i64 (i : Int)] hz := by
          intro k
          induction k with
          | zero =>
            intro i G hz hi hG I
            have hi : i = (fl o).length := by omega
            subst hi
            rw [List.take_length, ← blksTo_succ] at I
            refine hL18 _ _ _ _ _ _ _ _ _ _ _ _ _ (iF (decide_eq_false (by omega)) (hJ16 _ _ _ _ _ _ _ _ _ ?_))
            rw [show IntKind.wrap .i64 ((o : Int) + 1) = ((o + 1 : Nat) : Int) by rw [IntKind.wrap_i64]; omega]
            exact ih (o + 1) G hz (by omega) hG.next (I.sub (.cons_cons _ (.cons_cons _ (.cons _ (.cons_cons _ .slnil)))))
          | succ k ih2 =>
            intro i G hz hi hG I
            have hil : i < (fl o).length := by omega
            refine hL18 _ _ _ _ _ _ _ _ _ _ _ _ _ (iT (decide_eq_true (by omega)) fun J19 hJ19 => ?_)
            have hBp := hG.put W hoo hil
            have hpm := getD_mem hil
            have htk := take_snoc hil
            obtain ⟨b7, e7, v7⟩ := sl_cell (I.at 2) (i := i) (by omega)
            have v7 : cellAt hz ⟨b7, i, none⟩ = some (.int .u64 (adr c ((fl o).getD i 0))) := by
              rw [v7]
              unfold uL
              rw [List.getD_eq_getElem?_getD, List.getElem?_map, List.getElem?_eq_getElem hil, List.getD_eq_getElem?_getD, List.getElem?_eq_getElem hil]; rfl
            have hT : ∃ post, lvB l ++ blks x.m.o fl = (lvB l ++ (blksTo fl o ++ ((fl o).take i).map fun p => (p, o))) ++ ((fl o).getD i 0, o) :: post := by
              obtain ⟨post, e⟩ : ∃ post, blks x.m.o fl = blksTo fl (o + 1) ++ post := by
                rcases Nat.lt_or_ge o x.m.o with h1 | h1
                · exact blksTo_pre fl (by omega)
                · have : o = x.m.o := by omega
                  exact ⟨[], by rw [this, blksTo_top]; simp⟩
              refine ⟨((fl o).drop (i + 1)).map (fun p => (p, o)) ++ post, ?_⟩
              have e2 : (fl o) = (fl o).take i ++ (fl o).getD i 0 :: (fl o).drop (i + 1) := by
                rw [List.getD_eq_getElem?_getD, List.getElem?_eq_getElem hil]
                simp only [Option.getD_some, List.getElem_cons_drop, List.take_append_drop]
              have e3 := congrArg (List.map fun p => (p, o)) e2
              rw [List.map_append, List.map_cons] at e3
              rw [e, blksTo_succ, e3]
              simp
            obtain ⟨post, hT⟩ := hT
            have hTi : Tile x.m.o x.m.n ((lvB l ++ (blksTo fl o ++ ((fl o).take i).map fun p => (p, o))) ++ ((fl o).getD i 0, o) :: post) := by rw [← hT]; exact W.til
            have al := W.rep.al hoo hpm
            have HB : (wbR c Q x bp bc l).P hz := I.at 3
            refine ⟨_, e7, by omega, by omega, _, by rw [addq]; exact v7, ?_⟩
            generalize (fl o).getD i 0 = p at hBp htk hTi al
            refine page_ok (adr_u64 W.g W.ok.m (by omega)) W.ok HB.1 ?_
            rw [pageU_adr W.g al.2.2]
            have emod : Int.tmod (p : Int) ((2 ^ o : Nat) : Int) = 0 := by
              rw [Int.tmod_eq_emod_of_nonneg (by omega), ← Int.natCast_emod, al.1]; rfl
            have hgt : ¬ (IntKind.wrap .i64 ((p : Int) + IntKind.wrap .i64 ((1 : Int) * 2 ^ min (Int.toNat (IntKind.wrap .u64 (o : Int))) (IntKind.bits .i64))) > (x.m.n : Int)) := by
              rw [ewk _ ho8, shl1 ho8, IntKind.wrap_i64]; have := al.2.1; omega
            refine ⟨(p : Int), rfl, fun J21 hJ21 => pF (decide_eq_false (by omega)) ⟨by rw [ewk _ ho8]; omega, by rw [ewk _ ho8, shl1 ho8]; omega, hJ21 _ _ fun J22 hJ22 => ?_⟩⟩
            refine pF (eq_b (by rw [ewk _ ho8, shl1 ho8]; exact emod)) ⟨by rw [ewk _ ho8]; omega, _, rfl, _, wb_cell (I.at 3) (i := 7) (by omega), hJ22 _ _ (iF (decide_eq_false hgt) ?_)⟩
            obtain ⟨fb', e9, w9, S9⟩ := int_set (I.at 0) (q := p) al.2.2 ((o : Int) + 1)
            cases e9
            refine ⟨_, rfl, by omega, by omega, by rw [addq]; exact w9, fun L24 hL24 => ?_⟩
            rw [addq, show IntKind.wrap .i64 ((o : Int) + 1) = (o : Int) + 1 by rw [IntKind.wrap_i64]; omega]
            have I9 := I.step 0 S9
            have inner : ∀ (d2 j : Nat) (hv : Heap), j + d2 = 2 ^ o → Go.V.Own h hv (wbR c Q x bp bc l) [slR (some ⟨fb, 0, none⟩) x.m.n x.m.n 1 (intF fun y => if y = p then (o : Int) + 1 else G y), slR (some ⟨sb, 0, none⟩) x.m.n x.m.n 1 (seenF fun y => In (lvB l ++ (blksTo fl o ++ ((fl o).take i).map fun p => (p, o))) y ∨ (p ≤ y ∧ y < p + j)), slR p7 (fl o).length c7 1 (uL ((fl o).map (adr c))), wbR c Q x bp bc l] →
                L24 [.pointer (some ⟨Q.wb, 0, none⟩), .slice (some ⟨sb, 0, none⟩) x.m.n x.m.n, .slice (some ⟨fb, 0, none⟩) x.m.n x.m.n, .int .i64 (o : Int), .slice p7 (fl o).length c7, .int .i64 (i : Int), .int .i64 (p : Int), .int .i64 (j : Int)] hv := by
              intro d2
              induction d2 with
              | zero =>
                intro j hv hj I
                have hj : j = 2 ^ o := by omega
                refine hL24 _ _ _ _ _ _ _ _ _ _ _ _ _ _ _ ⟨by rw [ewk _ ho8]; omega, ?_⟩
                rw [ewk _ ho8, shl1 ho8]
                refine iF (decide_eq_false (by omega)) (hJ19 _ _ _ _ _ _ _ _ _ _ _ _ _ ?_)
                rw [show IntKind.wrap .i64 ((i : Int) + 1) = ((i + 1 : Nat) : Int) by rw [IntKind.wrap_i64]; omega]
                refine ih2 (i + 1) _ hv (by omega) hBp ?_
                have e : (fun y => In (lvB l ++ (blksTo fl o ++ ((fl o).take i).map fun p => (p, o))) y ∨ (p ≤ y ∧ y < p + j)) = In (lvB l ++ (blksTo fl o ++ ((fl o).take (i + 1)).map fun p => (p, o))) := funext fun y => propext (by
                  rw [htk, hj, List.map_append, ← List.append_assoc, ← List.append_assoc, ← List.append_assoc]
                  exact (In.snoc (b := (p, o))).symm)
                rw [← e]; exact I
              | succ d2 ih3 =>
                intro j hv hj I
                refine hL24 _ _ _ _ _ _ _ _ _ _ _ _ _ _ _ ⟨by rw [ewk _ ho8]; omega, ?_⟩
                rw [ewk _ ho8, shl1 ho8]
                refine iT (decide_eq_true (by omega)) ?_
                rw [show IntKind.wrap .i64 ((p : Int) + (j : Int)) = ((p + j : Nat) : Int) by rw [IntKind.wrap_i64]; omega]
                have hpj : p + j < x.m.n := by have := al.2.1; omega
                obtain ⟨sb', e2, hc, hw, S⟩ := seen_inc (I.at 1) (q := p + j) hpj (by
                  rintro (hin | hin)
                  · exact not_in hTi (b := (p, o)) ⟨by simp only []; omega, by simp only []; omega⟩ hin
                  · omega)
                cases e2
                refine ⟨_, rfl, by omega, by omega, _, by rw [addq]; exact hc, _, rfl, by omega, by omega, by rw [addq]; exact hw, ?_⟩
                rw [addq, w01, show IntKind.wrap .i64 ((j : Int) + 1) = ((j + 1 : Nat) : Int) by rw [IntKind.wrap_i64]; omega]
                have I' := I.step 1 S
                refine ih3 (j + 1) _ (by omega) ?_
                have e : (fun y => (In (lvB l ++ (blksTo fl o ++ ((fl o).take i).map fun p => (p, o))) y ∨ (p ≤ y ∧ y < p + j)) ∨ y = p + j) = fun y => In (lvB l ++ (blksTo fl o ++ ((fl o).take i).map fun p => (p, o))) y ∨ (p ≤ y ∧ y < p + (j + 1)) := funext fun y => propext (by
                  constructor
                  · rintro ((h | h) | h)
                    · exact .inl h
                    · exact .inr (by omega)
                    · exact .inr (by omega)
                  · rintro (h | h)
                    · exact .inl (.inl h)
                    · by_cases h2 : y = p + j
                      · exact .inr h2
                      · exact .inl (.inr (by omega)))
                rw [← e]; exact I'
            refine inner (2 ^ o) 0 _ (by omega) ?_
            have e : (fun y => In (lvB l ++ (blksTo fl o ++ ((fl o).take i).map fun p => (p, o))) y ∨ (p ≤ y ∧ y < p + 0)) = In (lvB l ++ (blksTo fl o ++ ((fl o).take i).map fun p => (p, o))) := funext fun y => propext ⟨fun h => h.elim id fun h => absurd h (by omega), .inl⟩
            rw [e]; exact I9
        refine each (fl o).length 0 G h7 (by omega) hG ?_
        have e : blksTo fl o ++ ((fl o).take 0).map (fun p => (p, o)) = blksTo fl o := by simp
        rw [e]; exact I7
    refine frees (x.m.o + 1) 0 (fun _ => 0) h3 (by omega) (fun q k => ⟨fun (h : (0 : Int) = (k : Int) + 1) => absurd h (by omega), fun h => h.elim (fun h => absurd h.1 (by omega)) fun h => by cases h.2⟩) ?_
    have e : lvB l ++ blksTo fl 0 = lvB l := by simp [blksTo]
    rw [e]; exact I3
  -- the live ones
  have lives : ∀ (k i : Nat) (hx : Heap), i + k = l.length → Go.V.Own h hx (wbR c Q x bp bc l) [slR (some ⟨sb, 0, none⟩) x.m.n x.m.n 1 (seenF (In (lvB (l.take i)))), blkR b0 1 fun _ => .slice bp l.length bc, wbR c Q x bp bc l] →
      L26 [.pointer (some ⟨Q.wb, 0, none⟩), .pointer (some ⟨b0, 0, none⟩), .slice (some ⟨sb, 0, none⟩) x.m.n x.m.n, .int .i64 (i : Int)] hx := by
    intro k
    induction k with
    | zero =>
      intro i hx hi I
      have hi : i = l.length := by omega
      subst hi
      rw [List.take_length] at I
      refine hL26 _ _ _ _ _ _ _ ⟨_, _, _, f1_cell (I.at 1), iF (decide_eq_false (by omega)) (rest hx I)⟩
    | succ k ih =>
      intro i hx hi I
      have hil : i < l.length := by omega
      refine hL26 _ _ _ _ _ _ _ ⟨_, _, _, f1_cell (I.at 1), iT (decide_eq_true (by omega)) fun J27 hJ27 L28 hL28 => ?_⟩
      have hbm : l.getD i bk0 ∈ l := by rw [List.getD_eq_getElem?_getD, List.getElem?_eq_getElem hil]; exact List.getElem_mem hil
      have htk : l.take (i + 1) = l.take i ++ [l.getD i bk0] := by rw [List.take_add_one, List.getD_eq_getElem?_getD, List.getElem?_eq_getElem hil]; rfl
      have hsp : lvB l ++ blks x.m.o fl = lvB (l.take i) ++ (l.getD i bk0).b :: (lvB (l.drop (i + 1)) ++ blks x.m.o fl) := by
        have e : l = l.take i ++ l.getD i bk0 :: l.drop (i + 1) := by
          rw [List.getD_eq_getElem?_getD, List.getElem?_eq_getElem hil]
          simp only [Option.getD_some, List.getElem_cons_drop, List.take_append_drop]
        have e2 : lvB l = lvB (l.take i) ++ (l.getD i bk0).b :: lvB (l.drop (i + 1)) := by
          have := congrArg (List.map Bk.b) e
          rw [List.map_append, List.map_cons] at this
          exact this
        rw [e2]; simp
      have hT : Tile x.m.o x.m.n (lvB (l.take i) ++ (l.getD i bk0).b :: (lvB (l.drop (i + 1)) ++ blks x.m.o fl)) := by rw [← hsp]; exact W.til
      have al := W.al (List.mem_map.2 ⟨_, hbm, rfl⟩)
      have hbk := hbn _ hbm
      have hgb : ∀ {hy : Heap}, (wbR c Q x bp bc l).P hy → _ := fun {hy} HB => row_bk (sl_row HB.2.1) (Upd.refl _ hy) hil
      generalize l.getD i bk0 = b at htk hT al hbk hgb
      simp only [Bk.b] at al
      have h8 := pow8 hbk.2
      have inner : ∀ (d j : Nat) (hy : Heap), j + d = 2 ^ b.k → Go.V.Own h hy (wbR c Q x bp bc l) [slR (some ⟨sb, 0, none⟩) x.m.n x.m.n 1 (seenF fun y => In (lvB (l.take i)) y ∨ (b.p ≤ y ∧ y < b.p + j)), blkR b0 1 fun _ => .slice bp l.length bc, wbR c Q x bp bc l] →
          L28 [.pointer (some ⟨Q.wb, 0, none⟩), .pointer (some ⟨b0, 0, none⟩), .slice (some ⟨sb, 0, none⟩) x.m.n x.m.n, .int .i64 (i : Int), .int .i64 (j : Int)] hy := by
        intro d
        induction d with
        | zero =>
          intro j hy hj I
          have hj : j = 2 ^ b.k := by omega
          obtain ⟨a, e1, r1, r2, r3⟩ := hgb (I.at 2)
          refine hL28 _ _ _ _ _ _ _ _ ⟨_, _, _, f1_cell (I.at 1), a, e1, by omega, by omega, _, r2, by rw [ewk _ hbk.2]; omega, ?_⟩
          rw [ewk _ hbk.2, shl1 hbk.2]
          refine iF (decide_eq_false (by omega)) (hJ27 _ _ _ _ _ _ _ ?_)
          rw [show IntKind.wrap .i64 ((i : Int) + 1) = ((i + 1 : Nat) : Int) by rw [IntKind.wrap_i64]; omega]
          refine ih (i + 1) hy (by omega) ?_
          have e : (fun y => In (lvB (l.take i)) y ∨ (b.p ≤ y ∧ y < b.p + j)) = In (lvB (l.take (i + 1))) := funext fun y => propext (by
            rw [htk, hj]
            unfold lvB
            rw [List.map_append]
            exact (In.snoc (b := b.b)).symm)
          rw [← e]; exact I
        | succ d ih2 =>
          intro j hy hj I
          obtain ⟨a, e1, r1, r2, r3⟩ := hgb (I.at 2)
          refine hL28 _ _ _ _ _ _ _ _ ⟨_, _, _, f1_cell (I.at 1), a, e1, by omega, by omega, _, r2, by rw [ewk _ hbk.2]; omega, ?_⟩
          rw [ewk _ hbk.2, shl1 hbk.2]
          refine iT (decide_eq_true (by omega)) ⟨_, _, _, f1_cell (I.at 1), a, e1, by omega, by omega, _, r1, ?_⟩
          rw [show IntKind.wrap .i64 ((b.p : Int) + (j : Int)) = ((b.p + j : Nat) : Int) by rw [IntKind.wrap_i64]; omega]
          obtain ⟨sb', e2, hc, hw, S⟩ := seen_inc (I.at 0) (q := b.p + j) (by omega) (by
            rintro (hin | hin)
            · exact not_in hT (b := b.b) ⟨by simp only [Bk.b]; omega, by simp only [Bk.b]; omega⟩ hin
            · omega)
          cases e2
          refine ⟨_, rfl, by omega, by omega, _, by rw [addq]; exact hc, _, rfl, by omega, by omega, by rw [addq]; exact hw, ?_⟩
          rw [addq, w01, show IntKind.wrap .i64 ((j : Int) + 1) = ((j + 1 : Nat) : Int) by rw [IntKind.wrap_i64]; omega]
          have I' := I.step 0 S
          refine ih2 (j + 1) _ (by omega) ?_
          have e : (fun y => (In (lvB (l.take i)) y ∨ (b.p ≤ y ∧ y < b.p + j)) ∨ y = b.p + j) = fun y => In (lvB (l.take i)) y ∨ (b.p ≤ y ∧ y < b.p + (j + 1)) := funext fun y => propext (by
            constructor
            · rintro ((h | h) | h)
              · exact .inl h
              · exact .inr (by omega)
              · exact .inr (by omega)
            · rintro (h | h)
              · exact .inl (.inl h)
              · by_cases h2 : y = b.p + j
                · exact .inr h2
                · exact .inl (.inr (by omega)))
          rw [← e]; exact I'
      refine inner (2 ^ b.k) 0 hx (by omega) ?_
      have e : (fun y => In (lvB (l.take i)) y ∨ (b.p ≤ y ∧ y < b.p + 0)) = In (lvB (l.take i)) := funext fun y => propext ⟨fun h => h.elim id fun h => absurd h (by omega), .inl⟩
      rw [e]; exact I
  exact lives l.length 0 h2 (by omega) I2
end
end Go.Proofs.Ytnlcmfdmbgnpfaa
