/- slab: Take, Give, Partial, New. No condition. -/
import Derived.Test.YteemmpkhdllapaaDoorZE2
set_option linter.unusedSimpArgs false
set_option linter.unusedVariables false
namespace Go.Proofs.YteemmpkhdllapaaDoor
open Go.V Classical

def atW (c : Cfg) (page : Int) : Int := IntKind.wrap .u64 (c.base + IntKind.wrap .u64 (4096 * IntKind.wrap .u64 page))
def cellW (a f : Int) (w : Nat) : Int := IntKind.wrap .u64 (a + IntKind.wrap .u64 (IntKind.wrap .u64 f * (w : Int)))
def nextW (a nx : Int) (w : Nat) : Int := if nx ≠ 0 then IntKind.wrap .i64 (IntKind.wrap .u64 (Int.tdiv (IntKind.wrap .u64 (nx - a)) (w : Int))) else -1

noncomputable def takeC (c : Cfg) (x : BU) (pt : Nat → Int) (page : Int) (k : Nat) : BU × (Nat → Int) × Int :=
  let p := cellW (atW c page) (pgA x.m page 6) (wdt k)
  let f := nextW (atW c page) (rdU c x.st p) (wdt k)
  let m1 := firstU (ownU x.m page (pgA x.m page 6) true) page f
  if f < 0 then (x.wm (unhangM m1 page), unhangP m1 pt page k, p) else (x.wm m1, pt, p)

noncomputable def takeSU (c : Cfg) (x : BU) (pt : Nat → Int) (k : Nat) (deny : Bool) : BU × (Nat → Int) × Int × Bool × Int :=
  if 0 ≤ pt k then ((takeC c x pt (pt k) k).1, (takeC c x pt (pt k) k).2.1, (takeC c x pt (pt k) k).2.2, false, 0)
  else if (needU c x 0 deny).2.2.2 ≠ 0 then ((needU c x 0 deny).1, pt, 0, false, (needU c x 0 deny).2.2.2)
  else
    let q := (((needU c x 0 deny).2.1 - c.base) / 4096).toNat
    let b := bornU c (needU c x 0 deny).1 pt q k
    let t := takeC c b.1 b.2 q k
    (t.1, t.2.1, t.2.2, (needU c x 0 deny).2.2.1, 0)

noncomputable def giveSU (c : Cfg) (x : BU) (pt : Nat → Int) (p : Int) : BU × (Nat → Int) × Int :=
  match findU c x.m p with
  | none => (x, pt, 1)
  | some (q, j) =>
    let k := (x.m.pg q 2).toNat
    let m1 := ownU x.m q j false
    if x.m.pg q 3 = 1 then
      let g := giveU c (x.wm (runI (unhangM m1 q) q)) (adr c q) 0
      (g.1, unhangP m1 pt q k, g.2)
    else if x.m.pg q 6 < 0 then (⟨wrU c x.st p 0, x.hd, firstU (hangM m1 pt q k) q j⟩, fset pt k q, 0)
    else (⟨wrU c x.st p (cellW (adr c q) (x.m.pg q 6) (wdt k)), x.hd, firstU m1 q j⟩, pt, 0)

section
variable {w₀ : World} {h h' : Heap} {c : Cfg} {Q : SL} {x : BU} {pt : Nat → Int} {K : Value → Heap → Prop}

theorem atW_adr (W : KI c x) {q : Nat} (hq : q < x.m.n) : atW c q = adr c q := by
  have bb := bu_bounds W.g W.ok.m
  unfold atW adr
  rw [wU (z := (q : Int)) (by unfold U64; omega), wU (z := 4096 * (q : Int)) (by unfold U64; omega), wU (by unfold U64; omega)]

theorem ki_takeC {page : Int} {k : Nat} (W : KI c x) : KI c (takeC c x pt page k).1 := by
  unfold takeC
  simp only []
  have W1 := ki_own (i := page) (p := pgA x.m page 6) (l := true) W
  have W2 := fun f => ki_first (x := x.wm (ownU x.m page (pgA x.m page 6) true)) (i := page) (p := f) W1
  split
  · exact ki_unhang (x := x.wm (firstU (ownU x.m page (pgA x.m page 6) true) page _)) (W2 _)
  · exact W2 _

theorem take_ok {k : Nat} {deny : Bool} (hk : k < 8) (W : KI c x) (T : TabH h (sR c Q x pt)) (H : (sR c Q x pt).P h)
    (hK : ∀ h' Q', SL.Same Q Q' → KI c (takeSU c x pt k deny).1 → Stp h h' (sR c Q x pt) (sR c Q' (takeSU c x pt k deny).1 (takeSU c x pt k deny).2.1) →
      K (.tuple #[.int .u64 (takeSU c x pt k deny).2.2.1, .bool (takeSU c x pt k deny).2.2.2.1, .int .i64 (takeSU c x pt k deny).2.2.2.2]) h') :
    CallV Tryd.prog w₀ F.slab_Slab_Take [gptr Q.sb, .int .i64 (k : Int), .bool deny] h K := by
  have s0 := s_c0 H
  refine slab_Slab_Take.call fun J1 hJ1 => ?_
  refine pF (by simp) (hJ1 _ _ ⟨fun e => by simp at e; omega, fun _ => ⟨_, rfl, by omega, by omega, _, s_pt H hk, fun J2 hJ2 => ?_⟩⟩)
  have mid : ∀ (hx : Heap) (Q' : SL) (y : BU) (pt' : Nat → Int) (page : Int) (b : Bool), SL.Same Q Q' → KI c y → Stp h hx (sR c Q x pt) (sR c Q' y pt') →
      takeSU c x pt k deny = ((takeC c y pt' page k).1, (takeC c y pt' page k).2.1, (takeC c y pt' page k).2.2, b, 0) → J2 [gptr Q.sb, .int .i64 (k : Int), .bool b, .int .i64 page] hx := by
    intro hx Q' y pt' page b hS Wy S0 eT
    have Hy := S0.p
    have Ty := T.st S0
    have c0 := s_c0 Hy
    refine hJ2 _ _ _ _ _ ⟨_, rfl, _, (by rw [← hS.sb]; exact c0), _, rfl, ground_Map_ok (s_pl Hy) ⟨_, rfl, at_ok (s_mp Hy) fun bb h1 u1 => ⟨_, _, _, _, _, _, _, _, _, _, _, _, rfl, ?_⟩⟩⟩
    obtain ⟨w2, N2⟩ := pg_lay h1 (pgA y.m page)
    have I := ((Own.of Hy).quiet u1).new N2
    refine ⟨w2, ?_⟩
    have H2 := I.at 1
    have T2 := Ty.at I 1
    rw [← hS.sb]
    refine base_ok Wy H2 ⟨_, rfl, _, pg_at (I.at 0) (j := 6) (by omega), by omega, by omega, (wdt k : Int), T2.t.cell hk, _, rfl, _, s_c0 H2, _, rfl, ground_Space_ok (s_pl H2) ⟨_, rfl, ?_⟩⟩
    refine sword_ok (p := cellW (atW c page) (pgA y.m page 6) (wdt k)) (wUb _) H2 fun e h3 u3 => ⟨_, _, rfl, fun J10 hJ10 => ?_⟩
    have I3 := I.quiet u3
    have T3 := Ty.at I3 1
    have rest : ∀ f, nextW (atW c page) (rdU c y.st (cellW (atW c page) (pgA y.m page 6) (wdt k))) (wdt k) = f →
        J10 [gptr Q'.sb, .int .i64 (k : Int), .int .u64 (cellW (atW c page) (pgA y.m page 6) (wdt k)), .bool b, .int .i64 page, gptr Q'.pl.B.mb, .pointer (some ⟨h1.size, 0, none⟩), .int .i64 f] h3 := by
      intro f hf
      refine hJ10 _ _ _ _ _ _ _ _ _ ⟨_, pg_at (I3.at 0) (j := 6) (by omega), own_ok Wy (I3.at 1) fun v h4 S4 => ⟨_, rfl, ?_⟩⟩
      have I4 := I3.step 1 S4
      have W4 := ki_own (i := page) (p := pgA y.m page 6) (l := true) Wy
      refine first_ok W4 (I4.at 1) fun v h5 S5 => ⟨_, rfl, fun J13 hJ13 => ?_⟩
      have I5 := I4.step 1 S5
      have W5 := ki_first (x := y.wm (ownU y.m page (pgA y.m page 6) true)) (i := page) (p := f) W4
      have WT := ki_takeC (pt := pt') (page := page) (k := k) Wy
      have fin : ∀ h6, Stp hx h6 (sR c Q' y pt') (sR c Q' (takeC c y pt' page k).1 (takeC c y pt' page k).2.1) → (takeC c y pt' page k).2.2 = cellW (atW c page) (pgA y.m page 6) (wdt k) → J13 [.int .u64 (cellW (atW c page) (pgA y.m page 6) (wdt k)), .bool b] h6 := by
        intro h6 S6 e6
        refine hJ13 _ _ _ ?_
        have := hK h6 Q' hS
        rw [eT] at this
        simp only [e6] at this
        exact this WT (S0.trans S6)
      by_cases hf0 : f < 0
      · refine iT (by simpa using hf0) (unhang_ok hk W5 (I5.at 1) fun h6 S6 => ⟨rfl, fin h6 ?_ ?_⟩)
        · have := (I5.step 1 S6).one 1
          unfold takeC
          simp only []
          rw [hf, if_pos hf0]
          exact this
        · unfold takeC; simp only []; rw [hf, if_pos hf0]
      · refine iF (by simpa using hf0) (fin h5 ?_ ?_)
        · have := I5.one 1
          unfold takeC
          simp only []
          rw [hf, if_neg hf0]
          exact this
        · unfold takeC; simp only []; rw [hf, if_neg hf0]
    by_cases hz : rdU c y.st (cellW (atW c page) (pgA y.m page 6) (wdt k)) ≠ 0
    · refine iT (ne_b hz) ⟨by omega, by omega, (wdt k : Int), T3.t.cell hk, by have := wdt_pos k; omega, rest _ ?_⟩
      unfold nextW; rw [if_pos hz]; rfl
    · refine iF (eq_b (not_not.1 hz)) (rest _ ?_)
      unfold nextW; rw [if_neg hz]
  by_cases hp : 0 ≤ pt k
  · refine iF (by simpa using hp) (mid h Q x pt (pt k) false (.refl Q) W (Stp.refl H) ?_)
    unfold takeSU; rw [if_pos hp]
  · refine iT (by simpa using hp) ⟨_, rfl, _, s0, need_u W H fun h1 Q1 hS1 W1 ha S1 => ⟨_, _, _, rfl, ?_⟩⟩
    by_cases he : (needU c x 0 deny).2.2.2 = 0
    case neg =>
      refine iT (ne_b he) ?_
      have := hK h1 Q1 hS1
      have e : takeSU c x pt k deny = ((needU c x 0 deny).1, pt, 0, false, (needU c x 0 deny).2.2.2) := by unfold takeSU; rw [if_neg hp, if_pos he]
      rw [e] at this
      exact this W1 S1
    obtain ⟨q, hq, ea⟩ := ha he
    refine iF (eq_b he) ?_
    have T1 := T.st S1
    rw [ea, ← hS1.sb]
    refine born_ok hk hq W1 T1 S1.p fun h2 S2 => ⟨_, rfl, ?_⟩
    rw [hS1.sb]
    refine mid h2 Q1 _ _ q _ hS1 (ki_born W1) (S1.trans S2) ?_
    have eq : (((needU c x 0 deny).2.1 - c.base) / 4096).toNat = q := by rw [ea]; unfold adr; omega
    unfold takeSU
    rw [if_neg hp, if_neg (not_not.2 he)]
    simp only [eq]

theorem take_no {k : Int} {deny : Bool} (hk : k < 0 ∨ 8 ≤ k) (hK : K (.tuple #[.int .u64 0, .bool false, .int .i64 1]) h) :
    CallV Tryd.prog w₀ F.slab_Slab_Take [gptr Q.sb, .int .i64 k, .bool deny] h K := by
  refine slab_Slab_Take.call fun J1 hJ1 => ?_
  by_cases h0 : k < 0
  · exact pT (by simpa using h0) (hJ1 _ _ ⟨fun _ => hK, fun e => by cases e⟩)
  · exact pF (by simpa using h0) (hJ1 _ _ ⟨fun _ => hK, fun e => by simp at e; omega⟩)

theorem sgive_ok {p : Int} (hp : U64 p) (W : KI c x) (T : TabH h (sR c Q x pt)) (H : (sR c Q x pt).P h)
    (hK : ∀ h', KI c (giveSU c x pt p).1 → Stp h h' (sR c Q x pt) (sR c Q (giveSU c x pt p).1 (giveSU c x pt p).2.1) → K (.int .i64 (giveSU c x pt p).2.2) h') :
    CallV Tryd.prog w₀ F.slab_Slab_Give [gptr Q.sb, .int .u64 p] h K := by
  have bb := bu_bounds W.g W.ok.m
  refine slab_Slab_Give.call ?_
  refine find_ok hp W T H (fun hf a b P h1 u1 => ⟨_, _, _, _, _, _, _, _, _, _, _, _, _, _, rfl, ?_⟩) fun q j hf h1 u1 => ⟨_, _, _, _, _, _, _, _, _, _, _, _, _, _, rfl, ?_⟩
  · obtain ⟨w2, N2⟩ := pg_lay h1 P
    refine ⟨w2, iT rfl ?_⟩
    have e : giveSU c x pt p = (x, pt, 1) := by unfold giveSU; rw [hf]
    have := hK _ (by rw [e]; exact W) (by rw [e]; exact Stp.quiet H (u1.nx N2.u fun _ e => e.elim))
    rw [e] at this
    exact this
  obtain ⟨f1, f2, f3, f4⟩ := findU_lt hf
  have PT := W.ok.m.pg q f1
  obtain ⟨k, hcl⟩ : ∃ k : Nat, x.m.pg q 2 = k := ⟨(x.m.pg q 2).toNat, by have := PT.c; omega⟩
  have hk : k < 8 := by have := PT.c; omega
  obtain ⟨w2, N2⟩ := pg_lay h1 (x.m.pg q)
  have I := ((Own.of H).quiet u1).new N2
  have H2 := I.at 1
  refine ⟨w2, iF rfl ⟨_, rfl, _, s_c0 H2, _, rfl, ground_Map_ok (s_pl H2) ⟨_, rfl, own_ok W H2 fun v h3 S3 => ⟨_, rfl, ?_⟩⟩⟩⟩
  have I3 := I.step 1 S3
  have W3 := ki_own (i := q) (p := j) (l := false) W
  refine base_ok W3 (I3.at 1) ⟨_, rfl, fun J7 hJ7 J8 hJ8 => ?_⟩
  have ea : IntKind.wrap .u64 (c.base + IntKind.wrap .u64 (4096 * IntKind.wrap .u64 (q : Int))) = adr c q := atW_adr W f1
  rw [ea]
  have eg : giveSU c x pt p =
      (if x.m.pg q 3 = 1 then ((giveU c (x.wm (runI (unhangM (ownU x.m q j false) q) q)) (adr c q) 0).1, unhangP (ownU x.m q j false) pt q k, (giveU c (x.wm (runI (unhangM (ownU x.m q j false) q) q)) (adr c q) 0).2)
      else if x.m.pg q 6 < 0 then (⟨wrU c x.st p 0, x.hd, firstU (hangM (ownU x.m q j false) pt q k) q j⟩, fset pt k q, 0)
      else (⟨wrU c x.st p (cellW (adr c q) (x.m.pg q 6) (wdt k)), x.hd, firstU (ownU x.m q j false) q j⟩, pt, 0)) := by
    unfold giveSU
    rw [hf]
    simp only [hcl, Int.toNat_natCast]
  refine ⟨_, pg_at (I3.at 0) (j := 3) (by omega), ?_⟩
  by_cases hl1 : x.m.pg q 3 = 1
  · refine iT (beq_iff_eq.2 hl1) ⟨_, pg_at (I3.at 0) (j := 2) (by omega), ?_⟩
    rw [hcl]
    refine unhang_ok hk W3 (I3.at 1) fun h4 S4 => ⟨rfl, ?_⟩
    have I4 := I3.step 1 S4
    have W4 := ki_unhang (x := x.wm (ownU x.m q j false)) (page := q) W3
    refine run1_ok (by unfold bd63; omega) W4 (I4.at 1) fun v h5 S5 => ⟨_, rfl, ?_⟩
    have I5 := I4.step 1 S5
    have W5 := ki_run (x := x.wm (unhangM (ownU x.m q j false) q)) (i := q) W4
    refine ⟨_, rfl, _, s_c0 (I5.at 1), ?_⟩
    refine give_u (by unfold adr U64; omega) W5 (I5.at 1) fun h6 W6 S6 => ⟨_, rfl, ?_⟩
    rw [if_pos hl1] at eg
    have := hK h6
    rw [eg] at this
    exact this W6 ((I5.step 1 S6).one 1)
  refine iF (beq_eq_false_iff_ne.2 hl1) ⟨_, pg_at (I3.at 0) (j := 6) (by omega), ?_⟩
  rw [if_neg hl1] at eg
  have tail : ∀ (h4 : Heap) (m1 : MS) (pt' : Nat → Int) (I4 : Go.V.Own h h4 (sR c Q x pt) [pgR h1.size (x.m.pg q), sR c Q (x.wm m1) pt']), KI c (x.wm m1) →
      giveSU c x pt p = (⟨wrU c x.st p (if 0 ≤ x.m.pg q 6 then cellW (adr c q) (x.m.pg q 6) (wdt k) else 0), x.hd, firstU m1 q j⟩, pt', 0) →
      J8 [gptr Q.sb, .int .u64 p, .int .i64 (q : Int), .int .i64 (j : Int), .pointer (some ⟨h1.size, 0, none⟩), gptr Q.pl.B.mb, .int .u64 (adr c q)] h4 := by
    intro h4 m1 pt' I4 W4 e4
    refine hJ8 _ _ _ _ _ _ _ _ fun J9 hJ9 => ?_
    have fin : ∀ v, U64 v → (if 0 ≤ x.m.pg q 6 then cellW (adr c q) (x.m.pg q 6) (wdt k) else 0) = v → J9 [gptr Q.sb, .int .u64 p, .int .i64 (q : Int), .int .i64 (j : Int), gptr Q.pl.B.mb, .int .u64 v] h4 := by
      intro v hv ev
      rw [ev] at e4
      refine hJ9 _ _ _ _ _ _ _ ⟨_, rfl, _, s_c0 (I4.at 1), _, rfl, ground_Space_ok (s_pl (I4.at 1)) ⟨_, rfl, sset_ok hp hv (I4.at 1) fun e h5 S5 => ⟨_, rfl, ?_⟩⟩⟩
      have I5 := I4.step 1 S5
      have W5 : KI c ((x.wm m1).ws (wrU c x.st p v)) := ki_sto W4 (by simp)
      refine first_ok W5 (I5.at 1) fun v' h6 S6 => ⟨_, rfl, hJ7 _ ?_⟩
      have W6 := ki_first (i := q) (p := j) W5
      have := hK h6
      rw [e4] at this
      exact this W6 ((I5.step 1 S6).one 1)
    refine ⟨_, pg_at (I4.at 0) (j := 6) (by omega), ?_⟩
    by_cases h6 : 0 ≤ x.m.pg q 6
    · refine iT (by simpa using h6) ⟨_, pg_at (I4.at 0) (j := 6) (by omega), _, pg_at (I4.at 0) (j := 2) (by omega), by have := PT.c; omega, by have := PT.c; omega, (wdt k : Int), (T.own I4).cell' hcl hk, fin _ (wUb _) ?_⟩
      rw [if_pos h6]; rfl
    · exact iF (by simpa using h6) (fin 0 (by unfold U64; omega) (by rw [if_neg h6]))
  by_cases h6 : x.m.pg q 6 < 0
  · refine iT (by simpa using h6) ⟨_, pg_at (I3.at 0) (j := 2) (by omega), ?_⟩
    rw [hcl]
    refine hang_ok hk W3 (I3.at 1) fun h4 S4 => ⟨rfl, tail h4 _ _ (I3.step 1 S4) (ki_hang (x := x.wm (ownU x.m q j false)) (pt := pt) (page := q) (k := k) W3) ?_⟩
    rw [eg, if_pos h6, if_neg (by omega)]
  · refine iF (by simpa using h6) (tail h3 _ _ I3 W3 ?_)
    rw [eg, if_neg h6, if_pos (by omega)]
end
end Go.Proofs.YteemmpkhdllapaaDoor
