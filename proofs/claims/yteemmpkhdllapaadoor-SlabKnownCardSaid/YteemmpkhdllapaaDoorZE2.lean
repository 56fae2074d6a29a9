/- buddy, region: what its calls leave of the sizes; Need with one plain answer; slab: born. No condition. -/
import Derived.Test.YteemmpkhdllapaaDoorZE1
set_option linter.unusedSimpArgs false
set_option linter.unusedVariables false
namespace Go.Proofs.YteemmpkhdllapaaDoor
open Go.V Classical

structure Sz (x x' : BU) : Prop where
  s : x'.st.n = x.st.n
  n : x'.m.n = x.m.n
  o : x'.m.o = x.m.o

theorem Sz.refl (x : BU) : Sz x x := ⟨rfl, rfl, rfl⟩
theorem Sz.trans {x y z : BU} (a : Sz x y) (b : Sz y z) : Sz x z := ⟨b.s.trans a.s, b.n.trans a.n, b.o.trans a.o⟩

theorem push_sz (c : Cfg) (y : LS) (p : Int) : (pushU c y p).1.st.n = y.st.n := by
  unfold pushU
  split
  · rfl
  · split
    · rfl
    · simp only []; split <;> rfl

theorem remove_sz (c : Cfg) (y : LS) (p : Int) : (removeU c y p).1.st.n = y.st.n := by
  unfold removeU
  split
  · rfl
  · split
    · rfl
    · simp only []; split <;> split <;> rfl

theorem pop_sz (c : Cfg) (y : LS) : (popU c y).1.st.n = y.st.n := by
  unfold popU
  split
  · rfl
  · split <;> exact remove_sz c y y.hd

theorem enter_sz (c : Cfg) (x : BU) (i k : Nat) : Sz x (enterU c x i k) := ⟨push_sz _ _ _, by simp, by simp⟩

theorem cut_sz (c : Cfg) (page to : Nat) : ∀ (d : Nat) (x : BU), Sz x (cutU c page to x d)
  | 0, x => ⟨rfl, by simp [cutU], by simp [cutU]⟩
  | d + 1, x => by
    have h1 := enter_sz c x (page + 2 ^ (to + d)) (to + d)
    have h2 : Sz (enterU c x (page + 2 ^ (to + d)) (to + d)) { enterU c x (page + 2 ^ (to + d)) (to + d) with m := (turnU (enterU c x (page + 2 ^ (to + d)) (to + d)).m (page + 2 ^ (to + d)) (to + d)).1 } := ⟨rfl, by simp, by simp⟩
    exact (h1.trans h2).trans (cut_sz c page to d _)

theorem takeF_sz (c : Cfg) (o : Nat) : ∀ (d : Nat) (x : BU), Sz x (takeF c o x d).1
  | 0, x => Sz.refl x
  | d + 1, x => by
    have hp : Sz x (x.put (x.m.o - d) (popU c ⟨x.st, x.hd (x.m.o - d)⟩).1) := ⟨pop_sz c ⟨x.st, x.hd (x.m.o - d)⟩, rfl, rfl⟩
    unfold takeF
    simp only []
    split
    · exact takeF_sz c o d x
    · split
      · exact hp
      · split
        · exact hp
        · rename_i page _
          exact hp.trans (Sz.trans (y := { x.put (x.m.o - d) (popU c ⟨x.st, x.hd (x.m.o - d)⟩).1 with m := (turnU (x.put (x.m.o - d) (popU c ⟨x.st, x.hd (x.m.o - d)⟩).1).m page (x.m.o - d)).1 }) ⟨rfl, by simp, by simp⟩ (cut_sz c page o _ _))

theorem take_sz (c : Cfg) (x : BU) (o : Int) : Sz x (takeU c x o).1 := by
  unfold takeU
  split
  · exact Sz.refl x
  · exact takeF_sz c _ _ x

theorem up_sz (c : Cfg) : ∀ (d : Nat) (x : BU) (page k : Nat), Sz x (upU c x page k d).1
  | d, x, page, k => by
    have ht : Sz x { x with m := (turnU x.m page k).1 } := ⟨rfl, by simp, by simp⟩
    unfold upU
    split
    · exact ht.trans (enter_sz c _ _ _)
    · cases d with
      | zero => exact Sz.refl x
      | succ d =>
        have hr : Sz x (BU.put { x with m := (turnU x.m page k).1 } k (removeU c ⟨x.st, x.hd k⟩ (adr c (bud page k))).1) := ⟨remove_sz c ⟨x.st, x.hd k⟩ _, by simp, by simp⟩
        simp only []
        split
        · exact hr
        · exact hr.trans (up_sz c d _ _ _)

theorem give_sz (c : Cfg) (x : BU) (p o : Int) : Sz x (giveU c x p o).1 := by
  unfold giveU
  split
  · exact Sz.refl x
  · exact up_sz c _ x _ _

theorem feed_sz (c : Cfg) (x : BU) : Sz x (feedU c x).1 := by
  unfold feedU
  split
  · exact Sz.refl x
  · split <;> exact give_sz c x _ _

theorem KI.sz {c : Cfg} {x x' : BU} (k : KI c x) (ok : BU.Ok c x') (s : Sz x x') : KI c x' := ⟨ok, by rw [s.n, s.s, s.o]; exact k.e, k.g⟩

theorem takeF_adr {c : Cfg} (g : c.Good) {o : Nat} : ∀ (d : Nat) (x : BU), (takeF c o x d).2.2 = 0 → ∃ q, q < x.m.n ∧ (takeF c o x d).2.1 = adr c q
  | 0, x, h => by simp [takeF] at h
  | d + 1, x, h => by
    unfold takeF at h ⊢
    simp only [] at h ⊢
    split at h
    · rename_i h1; rw [if_pos h1]; exact takeF_adr g d x h
    · rename_i h1
      rw [if_neg h1]
      split at h
      · simp at h
      · rename_i h2
        rw [if_neg h2]
        split at h
        · simp at h
        · rename_i page hp
          obtain ⟨q1, q2⟩ := pageU_out g hp
          exact ⟨page, q1, by simp only [hp]; exact q2⟩

theorem take_adr {c : Cfg} (g : c.Good) {x : BU} {o : Int} (h : (takeU c x o).2.2 = 0) : ∃ q, q < x.m.n ∧ (takeU c x o).2.1 = adr c q := by
  unfold takeU at h ⊢
  split at h
  · simp at h
  · rename_i h1; rw [if_neg h1]; exact takeF_adr g _ x h

noncomputable def needU (c : Cfg) (x : BU) (o : Int) (deny : Bool) : BU × Int × Bool × Int :=
  if (takeU c x o).2.2 ≠ 2 then ((takeU c x o).1, (takeU c x o).2.1, false, (takeU c x o).2.2)
  else if deny = true ∨ (x.st.n : Int) = c.limit then ((takeU c x o).1, 0, false, 2)
  else
    let y : BU := ⟨growS c (takeU c x o).1.st, (takeU c x o).1.hd, mGrow (takeU c x o).1.m⟩
    let t := takeU c (feedU c y).1 o
    (t.1, t.2.1, decide (t.2.2 = 0), t.2.2)

theorem KI.room {c : Cfg} {x : BU} (W : KI c x) (hl : (x.st.n : Int) < c.limit) : x.m.n + 2 ^ x.m.o ≤ 1024 := by
  have h1 := W.g.pg
  have h2 : c.order.toNat = x.m.o := by have := W.ok.o; omega
  rw [h2] at h1
  have h3 : ((x.st.n + 1 : Nat) : Int) * ((2 ^ x.m.o : Nat) : Int) ≤ c.limit * ((2 ^ x.m.o : Nat) : Int) := Int.mul_le_mul_of_nonneg_right (by omega) (Int.natCast_nonneg _)
  have h4 : (((x.st.n + 1) * 2 ^ x.m.o : Nat) : Int) ≤ 1024 := by rw [Int.natCast_mul]; exact Int.le_trans h3 h1
  rw [W.e, ← Nat.succ_mul]
  exact Int.ofNat_le.1 h4

theorem KI.grow {c : Cfg} {x : BU} (W : KI c x) (hl : (x.st.n : Int) < c.limit) : KI c ⟨growS c x.st, x.hd, mGrow x.m⟩ := by
  have hr := W.room hl
  refine ⟨grow_b W.ok hr _, ?_, W.g⟩
  rw [grow_eq hr]
  show x.m.n + 2 ^ x.m.o = (x.st.n + 1) * 2 ^ x.m.o
  rw [W.e, Nat.succ_mul]

structure SL.Same (Q Q' : SL) : Prop where
  sb : Q'.sb = Q.sb
  pb : Q'.pl.pb = Q.pl.pb
  s : Q'.pl.B.s = Q.pl.B.s
  mb : Q'.pl.B.mb = Q.pl.B.mb
  b : Q'.pl.B.b = Q.pl.B.b

theorem SL.Same.refl (Q : SL) : SL.Same Q Q := ⟨rfl, rfl, rfl, rfl, rfl⟩
theorem SL.Same.trans {a b d : SL} (h : SL.Same a b) (k : SL.Same b d) : SL.Same a d := ⟨k.sb.trans h.sb, k.pb.trans h.pb, k.s.trans h.s, k.mb.trans h.mb, k.b.trans h.b⟩

section
variable {w₀ : World} {h h' : Heap} {c : Cfg} {Q : SL} {x : BU} {pt : Nat → Int} {K : Value → Heap → Prop}

theorem need_u {o : Int} {deny : Bool} (W : KI c x) (H : (sR c Q x pt).P h)
    (hK : ∀ h' Q', SL.Same Q Q' → KI c (needU c x o deny).1 → ((needU c x o deny).2.2.2 = 0 → ∃ q, q < (needU c x o deny).1.m.n ∧ (needU c x o deny).2.1 = adr c q) → Stp h h' (sR c Q x pt) (sR c Q' (needU c x o deny).1 pt) →
      K (.tuple #[.int .u64 (needU c x o deny).2.1, .bool (needU c x o deny).2.2.1, .int .i64 (needU c x o deny).2.2.2]) h') :
    CallV Tryd.prog w₀ F.region_Pool_Need [gptr Q.pl.pb, .int .i64 o, .bool deny] h K := by
  have Hp := s_pl H
  refine region_Pool_Need.call ⟨_, rfl, _, pl_c2 Hp, ?_⟩
  refine bu_Take_ok W.ok (pl_bu Hp) fun h1 ok1 o1 S1 => ⟨_, _, rfl, ?_⟩
  have T1 := s_pool (P' := Q.pl) H rfl (pl_lift' Hp S1)
  have z1 := take_sz c x o
  have W1 := W.sz ok1 z1
  by_cases h2 : (takeU c x o).2.2 = 2
  case neg =>
    refine iT (ne_b h2) ?_
    have e : needU c x o deny = ((takeU c x o).1, (takeU c x o).2.1, false, (takeU c x o).2.2) := by unfold needU; rw [if_pos h2]
    have := hK h1 Q (.refl Q)
    rw [e] at this
    exact this W1 (fun h0 => by obtain ⟨q, a, b⟩ := take_adr W.g h0; exact ⟨q, by rw [z1.n]; exact a, b⟩) T1
  refine iF (eq_b h2) ⟨_, rfl, _, pl_c0 (s_pl T1.p), ?_⟩
  by_cases hd : deny = true ∨ (x.st.n : Int) = c.limit
  · have e : needU c x o deny = ((takeU c x o).1, 0, false, 2) := by unfold needU; rw [if_neg (not_not.2 h2), if_pos hd]
    refine mem_Commit_ok (s_sp T1.p) (fun _ => ⟨_, _, rfl, iT rfl ?_⟩) fun hd' hl => absurd hd (by rw [z1.s] at hl; intro hc; rcases hc with hc | hc; exact absurd hc (by simp [hd']); omega)
    have := hK h1 Q (.refl Q)
    rw [e] at this
    exact this W1 (fun h0 => absurd (show (2 : Int) = 0 from h0) (by decide)) T1
  have hd0 : deny = false := by cases deny; rfl; exact absurd (.inl rfl) hd
  subst hd0
  have hl : (x.st.n : Int) < c.limit := by
    have : (x.st.n : Int) ≤ c.limit := (s_sp H).nl
    have : (x.st.n : Int) ≠ c.limit := fun e => hd (.inr e)
    omega
  have hl1 : ((takeU c x o).1.st.n : Int) < c.limit := by rw [z1.s]; exact hl
  refine commit_ok (s_sp T1.p) hl1 fun Z' h2' S2 => ⟨_, _, rfl, iF rfl ?_⟩
  have T2 := T1.trans (s_pool (Q := Q) (P' := ⟨Q.pl.pb, { Q.pl.B with Z := Z' }⟩) T1.p rfl (pl_lift (s_pl T1.p) (B' := { Q.pl.B with Z := Z' }) ⟨rfl, rfl, rfl⟩ (bu_liftZ (pl_bu (s_pl T1.p)) S2)))
  have H2 := T2.p
  have k1 := pl_c1 (s_pl H2)
  refine ⟨_, rfl, _, k1, ?_⟩
  refine pm_Grow_ok W1.ok.m (s_mp (x := ⟨growS c (takeU c x o).1.st, (takeU c x o).1.hd, (takeU c x o).1.m⟩) H2) fun h3 w' S3 => ⟨rfl, ?_⟩
  have W3 := W1.grow hl1
  have hro : (mGrow (takeU c x o).1.m).o = (takeU c x o).1.m.o := by rw [grow_eq (W1.room hl1)]
  have T3 := T2.trans (s_pool (Q := ⟨Q.sb, ⟨Q.pl.pb, { Q.pl.B with Z := Z' }⟩⟩) (P' := ⟨Q.pl.pb, { Q.pl.B with Z := Z', w := w' }⟩) H2 rfl
    (pl_lift (x' := ⟨growS c (takeU c x o).1.st, (takeU c x o).1.hd, mGrow (takeU c x o).1.m⟩) (s_pl H2) (B' := { Q.pl.B with Z := Z', w := w' }) ⟨rfl, rfl, rfl⟩ (bu_liftw (x := ⟨growS c (takeU c x o).1.st, (takeU c x o).1.hd, (takeU c x o).1.m⟩) (pl_bu (s_pl H2)) hro S3)))
  have H3 := T3.p
  have k2 := pl_c2 (s_pl H3)
  refine ⟨_, rfl, _, k2, ?_⟩
  refine bu_Feed_ok W3.ok (pl_bu (s_pl H3)) fun h4 ok4 o4 S4 => ⟨_, rfl, ?_⟩
  have T4 := T3.trans (s_pool (Q := ⟨Q.sb, ⟨Q.pl.pb, { Q.pl.B with Z := Z', w := w' }⟩⟩) (P' := ⟨Q.pl.pb, { Q.pl.B with Z := Z', w := w' }⟩) H3 rfl (pl_lift' (s_pl H3) S4))
  have W4 := W3.sz ok4 (feed_sz c _)
  have H4 := T4.p
  have k3 := pl_c2 (s_pl H4)
  refine ⟨_, rfl, _, k3, ?_⟩
  refine bu_Take_ok W4.ok (pl_bu (s_pl H4)) fun h5 ok5 o5 S5 => ⟨_, _, rfl, ?_⟩
  have T5 := T4.trans (s_pool (Q := ⟨Q.sb, ⟨Q.pl.pb, { Q.pl.B with Z := Z', w := w' }⟩⟩) (P' := ⟨Q.pl.pb, { Q.pl.B with Z := Z', w := w' }⟩) H4 rfl (pl_lift' (s_pl H4) S5))
  have z5 := take_sz c (feedU c ⟨growS c (takeU c x o).1.st, (takeU c x o).1.hd, mGrow (takeU c x o).1.m⟩).1 o
  have W5 := W4.sz ok5 z5
  have e : needU c x o false = ((takeU c (feedU c ⟨growS c (takeU c x o).1.st, (takeU c x o).1.hd, mGrow (takeU c x o).1.m⟩).1 o).1, (takeU c (feedU c ⟨growS c (takeU c x o).1.st, (takeU c x o).1.hd, mGrow (takeU c x o).1.m⟩).1 o).2.1,
      decide ((takeU c (feedU c ⟨growS c (takeU c x o).1.st, (takeU c x o).1.hd, mGrow (takeU c x o).1.m⟩).1 o).2.2 = 0), (takeU c (feedU c ⟨growS c (takeU c x o).1.st, (takeU c x o).1.hd, mGrow (takeU c x o).1.m⟩).1 o).2.2) := by
    unfold needU; rw [if_neg (not_not.2 h2), if_neg hd]
  have := hK h5 ⟨Q.sb, ⟨Q.pl.pb, { Q.pl.B with Z := Z', w := w' }⟩⟩ ⟨rfl, rfl, rfl, rfl, rfl⟩
  rw [e] at this
  have e2 : ((takeU c (feedU c ⟨growS c (takeU c x o).1.st, (takeU c x o).1.hd, mGrow (takeU c x o).1.m⟩).1 o).2.2 == (0 : Int)) = decide ((takeU c (feedU c ⟨growS c (takeU c x o).1.st, (takeU c x o).1.hd, mGrow (takeU c x o).1.m⟩).1 o).2.2 = 0) := rfl
  rw [e2]
  exact this W5 (fun h0 => by obtain ⟨q, a, b⟩ := take_adr W.g h0; exact ⟨q, by rw [z5.n]; exact a, b⟩) T5

theorem give_u {p o : Int} (hp : U64 p) (W : KI c x) (H : (sR c Q x pt).P h)
    (hK : ∀ h', KI c (giveU c x p o).1 → Stp h h' (sR c Q x pt) (sR c Q (giveU c x p o).1 pt) → K (.int .i64 (giveU c x p o).2) h') :
    CallV Tryd.prog w₀ F.region_Pool_Give [gptr Q.pl.pb, .int .u64 p, .int .i64 o] h K :=
  region_Pool_Give.call ⟨_, rfl, _, pl_c2 (s_pl H), bu_Give_ok hp W.ok (pl_bu (s_pl H)) fun h1 ok1 o1 S1 => ⟨_, rfl, hK h1 (W.sz ok1 (give_sz c x p o)) (s_pool (P' := Q.pl) H rfl (pl_lift' (s_pl H) S1))⟩⟩

def linkS (c : Cfg) (st : Sto) (a : Int) (w n : Nat) : Nat → Sto
  | 0 => st
  | i + 1 => (linkS c st a w n i).wr c (a + ((i * w : Nat) : Int)) (if i + 1 = n then 0 else a + (((i + 1) * w : Nat) : Int))

@[simp] theorem linkS_n (c : Cfg) (st : Sto) (a : Int) (w n : Nat) : ∀ i, (linkS c st a w n i).n = st.n
  | 0 => rfl
  | i + 1 => by simp [linkS, linkS_n c st a w n i]

def cnt (k : Nat) : Nat := 256 / 2 ^ k

theorem k8 {k : Nat} (hk : k < 8) : k = 0 ∨ k = 1 ∨ k = 2 ∨ k = 3 ∨ k = 4 ∨ k = 5 ∨ k = 6 ∨ k = 7 := by omega
theorem cnt_wdt {k : Nat} (hk : k < 8) : cnt k * wdt k = 4096 ∧ 4096 / wdt k = cnt k ∧ 2 ≤ cnt k ∧ cnt k ≤ 256 ∧ 16 ≤ wdt k ∧ wdt k ≤ 2048 := by
  rcases k8 hk with rfl | rfl | rfl | rfl | rfl | rfl | rfl | rfl <;> decide

noncomputable def bornU (c : Cfg) (x : BU) (pt : Nat → Int) (q k : Nat) : BU × (Nat → Int) :=
  (⟨linkS c x.st (adr c q) (wdt k) (cnt k) (cnt k), x.hd, hangM (firstU (slabU x.m q k) q 0) pt q k⟩, fset pt k q)

theorem ki_born {q k : Nat} (W : KI c x) : KI c (bornU c x pt q k).1 := by
  have W1 := ki_slab (i := q) (p := k) W
  have W2 := ki_first (x := x.wm (slabU x.m q k)) (i := q) (p := 0) W1
  have W3 := ki_hang (x := x.wm (firstU (slabU x.m q k) q 0)) (pt := pt) (page := q) (k := k) W2
  exact ki_sto W3 (by simp)

theorem born_ok {q k : Nat} (hk : k < 8) (hq : q < x.m.n) (W : KI c x) (T : TabH h (sR c Q x pt)) (H : (sR c Q x pt).P h)
    (hK : ∀ h', Stp h h' (sR c Q x pt) (sR c Q (bornU c x pt q k).1 (bornU c x pt q k).2) → K (.int .i64 (q : Int)) h') :
    CallV Tryd.prog w₀ F.slab_Slab_born [gptr Q.sb, .int .u64 (adr c q), .int .i64 (k : Int)] h K := by
  have s0 := s_c0 H
  have bb := bu_bounds W.g W.ok.m
  obtain ⟨c1, c2, c3, c4, c5, c6⟩ := cnt_wdt hk
  have sp4 := W.span
  refine slab_Slab_born.call ⟨_, rfl, _, s0, _, rfl, _, rfl, _, s0, _, rfl, ground_Map_ok (s_pl H) ⟨_, rfl, s0, ground_Space_ok (s_pl H) ⟨_, rfl, base_ok W H ⟨_, rfl, by decide, ?_⟩⟩⟩⟩
  have e1 : IntKind.wrap .u64 (adr c q - c.base) = ((4096 * q : Nat) : Int) := by unfold adr; rw [wU (by unfold U64; omega)]; omega
  have e2 : Int.tdiv ((4096 * q : Nat) : Int) 4096 = (q : Int) := by rw [Int.tdiv_eq_ediv_of_nonneg (by omega)]; omega
  have e3 : IntKind.wrap .u64 (q : Int) = q := wU (by unfold U64; omega)
  have e4 : IntKind.wrap .i64 (q : Int) = q := wI (by unfold bd63; omega)
  rw [e1, e2, e3, e4]
  refine slabm_ok H fun v h1 S1 => ⟨_, rfl, by omega, by omega, (wdt k : Int), (T.st S1).t.cell hk, by omega, ?_⟩
  have W1 := ki_slab (i := q) (p := k) W
  have e5 : Int.tdiv 4096 (wdt k : Int) = (cnt k : Int) := by
    rw [Int.tdiv_eq_ediv_of_nonneg (by omega), ← c2]; rfl
  have e6 : IntKind.wrap .u64 (cnt k : Int) = cnt k := wU (by unfold U64; omega)
  rw [e5, e6]
  intro J5 hJ5 L8 hL8
  have fin : ∀ h2, Stp h h2 (sR c Q x pt) (sR c Q ((x.wm (slabU x.m q k)).ws (linkS c x.st (adr c q) (wdt k) (cnt k) (cnt k))) pt) → J5 [gptr Q.sb, .int .i64 (k : Int), gptr Q.pl.B.mb, .int .i64 (q : Int)] h2 := by
    intro h2 S2
    have W2 : KI c ((x.wm (slabU x.m q k)).ws (linkS c x.st (adr c q) (wdt k) (cnt k) (cnt k))) := ki_sto W1 (by simp)
    refine hJ5 _ _ _ _ _ (first_ok W2 S2.p fun v h3 S3 => ⟨_, rfl, ?_⟩)
    have W3 := ki_first (i := q) (p := 0) W2
    exact hang_ok hk W3 S3.p fun h4 S4 => ⟨rfl, hK _ (S2.trans (S3.trans S4))⟩
  have loop : ∀ (d i : Nat) (h2 : Heap), i + d = cnt k → Stp h h2 (sR c Q x pt) (sR c Q ((x.wm (slabU x.m q k)).ws (linkS c x.st (adr c q) (wdt k) (cnt k) i)) pt) →
      L8 [gptr Q.sb, .int .u64 (adr c q), .int .i64 (k : Int), gptr Q.pl.B.mb, gptr Q.pl.B.s, .int .i64 (q : Int), .int .u64 (cnt k : Int), .int .u64 (cnt k : Int), .int .u64 (i : Int)] h2 := by
    intro d
    induction d with
    | zero =>
      intro i h2 hi S2
      have hi : i = cnt k := by omega
      subst hi
      exact hL8 _ _ _ _ _ _ _ _ _ _ (iF (by simp) (fin h2 S2))
    | succ d ih =>
      intro i h2 hi S2
      have hlt : i < cnt k := by omega
      have hm : i * wdt k + wdt k ≤ 4096 := by
        rw [← c1, ← Nat.succ_mul]; exact Nat.mul_le_mul_right _ hlt
      have T2 := T.st S2
      have ei : IntKind.wrap .u64 ((i : Int) + 1) = ((i + 1 : Nat) : Int) := by rw [wU (by unfold U64; omega)]; omega
      refine hL8 _ _ _ _ _ _ _ _ _ _ (iT (by simpa using hlt) ⟨by omega, by omega, (wdt k : Int), T2.t.cell hk, fun J9 hJ9 => ?_⟩)
      rw [ei]
      have e8 : IntKind.wrap .u64 ((i : Int) * (wdt k : Int)) = ((i * wdt k : Nat) : Int) := by
        rw [← Int.natCast_mul, wU (by unfold U64; omega)]
      have e9 : IntKind.wrap .u64 (adr c q + ((i * wdt k : Nat) : Int)) = adr c q + ((i * wdt k : Nat) : Int) := wU (by unfold adr U64; omega)
      have next : ∀ v : Int, U64 v → v = (if i + 1 = cnt k then 0 else adr c q + (((i + 1) * wdt k : Nat) : Int)) →
          J9 [gptr Q.sb, .int .u64 (adr c q), .int .i64 (k : Int), gptr Q.pl.B.mb, gptr Q.pl.B.s, .int .i64 (q : Int), .int .u64 (cnt k : Int), .int .u64 (i : Int), .int .u64 v, .int .u64 (cnt k : Int), .int .u64 (i : Int)] h2 := by
        intro v hv ev
        refine hJ9 _ _ _ _ _ _ _ _ _ _ _ _ ⟨by omega, by omega, (wdt k : Int), T2.t.cell hk, ?_⟩
        rw [e8, e9]
        refine sset_ok (by unfold adr U64; omega) hv S2.p fun e h3 S3 => ⟨_, rfl, ?_⟩
        rw [ei]
        refine ih (i + 1) h3 (by omega) (S2.trans ?_)
        have th : There c (linkS c x.st (adr c q) (wdt k) (cnt k) i).n (adr c q + ((i * wdt k : Nat) : Int)) 8 := .inr ⟨by unfold adr; omega, by rw [linkS_n, sp4]; unfold adr; omega⟩
        have es : linkS c x.st (adr c q) (wdt k) (cnt k) (i + 1) = wrU c (linkS c x.st (adr c q) (wdt k) (cnt k) i) (adr c q + ((i * wdt k : Nat) : Int)) v := by
          unfold wrU
          rw [if_pos th, ev]
          rfl
        rw [es]
        exact S3
      by_cases he : i + 1 = cnt k
      · exact iT (by simp [he]) (next 0 (by unfold U64; omega) (by rw [if_pos he]))
      · have hlt2 : i + 1 < cnt k := by omega
        have hm2 : (i + 1) * wdt k ≤ 4096 := by rw [← c1]; exact Nat.mul_le_mul_right _ (by omega)
        have e10 : IntKind.wrap .u64 (((i + 1 : Nat) : Int) * (wdt k : Int)) = (((i + 1) * wdt k : Nat) : Int) := by
          rw [← Int.natCast_mul, wU (by unfold U64; omega)]
        have e11 : IntKind.wrap .u64 (adr c q + (((i + 1) * wdt k : Nat) : Int)) = adr c q + (((i + 1) * wdt k : Nat) : Int) := wU (by unfold adr U64; omega)
        refine iF (beq_eq_false_iff_ne.2 fun e => he (by exact_mod_cast e)) ?_
        rw [e10, e11]
        exact next _ (by unfold adr U64; omega) (by rw [if_neg he])
  exact loop (cnt k) 0 h1 (by omega) S1
end
end Go.Proofs.YteemmpkhdllapaaDoor
