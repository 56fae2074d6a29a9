/- croftlaw5: a world: goes, at, page, ints; what a call does to what a world stands for. No condition. -/
import Derived.Test.YtnlcmfdmbgnpfaaBI
set_option linter.unusedSimpArgs false
set_option linter.unusedVariables false
namespace Go.Proofs.Ytnlcmfdmbgnpfaa
open Go.V Classical

def pgI : Option Nat → Int
  | none => -1
  | some q => (q : Int)

section
variable {w₀ : World} {h h' : Heap} {c : Cfg} {Q : WW} {P r : Nat} {x : BU} {K : Value → Heap → Prop}

theorem goes_ok (hx : BU.Ok c x) (hr : x.m.n = (r + 1) * 2 ^ x.m.o) (hn : x.st.n = r + 1) (H : (wdR c Q x.m.n (r + 1) x).P h)
    (hK : ∀ (h' : Heap) (Q' : WW), Q'.wb = Q.wb → Stp h h' (wdR c Q x.m.n (r + 1) x) (wdR c Q' (x.m.n - 2 ^ x.m.o) r ⟨⟨x.st.n - 1, x.st.M⟩, x.hd, mShrink x.m 1⟩) → K (.bool true) h') :
    CallV Try.prog w₀ F.croftlaw5_world_goes [.pointer (some ⟨Q.wb, 0, none⟩)] h K := by
  refine croftlaw5_world_goes.call ?_
  unfold croftlaw5_world_goes.vc
  have g := bu_good (wd_bu H)
  have o8 := hx.m.o8
  have n1 := hx.m.n1
  have h0 := Nat.two_pow_pos x.m.o
  have hle : 2 ^ x.m.o ≤ x.m.n := by rw [hr, Nat.succ_mul]; exact Nat.le_add_left _ _
  have hdiv : 1 ≤ x.m.n / 2 ^ x.m.o := (Nat.le_div_iff_mul_le h0).2 (by omega)
  have hr1 : r + 1 ≤ 1024 := by
    have h5 : (r + 1) * 1 ≤ (r + 1) * 2 ^ x.m.o := Nat.mul_le_mul_left _ (Nat.one_le_two_pow)
    omega
  refine ⟨_, rfl, _, wd_cell H (i := 3) (by omega), mem_Decommit_ok (by omega) (bu_sp (wd_bu H)) (fun hc => absurd hc (by omega)) fun m em hm h1 u1 hs1 H1 => ⟨_, rfl, fun J2 hJ2 => ?_⟩⟩
  have em : m = x.st.n - 1 := by omega
  subst em
  have S1 : Stp h h1 (spR Q.W.s c Q.W.Z x.st) (spR Q.W.s c Q.W.Z ⟨x.st.n - 1, x.st.M⟩) := ⟨u1, H1, fun b e => .inl e⟩
  have T1 := wd_lift' (x' := ⟨⟨x.st.n - 1, x.st.M⟩, x.hd, x.m⟩) H rfl (bu_liftsp (wd_bu H) S1)
  refine pF rfl ⟨_, rfl, _, wd_cell T1.p (i := 4) (by omega), ?_⟩
  refine pm_Shrink_ok (k := 1) hx.m (by omega) (bu_map (x := ⟨⟨x.st.n - 1, x.st.M⟩, x.hd, x.m⟩) (wd_bu T1.p)) (fun y ey hy h2 w2 S2 => ⟨_, rfl, hJ2 _ _ (iF rfl ?_)⟩) fun hc => absurd (show (0 : Int) ≤ 1 ∧ (1 : Int) ≤ ((x.m.n / 2 ^ x.m.o : Nat) : Int) from ⟨by omega, by omega⟩) hc
  have ey : y = 1 := by omega
  subst ey
  have T2 := T1.trans (wd_lift (x' := ⟨⟨x.st.n - 1, x.st.M⟩, x.hd, mShrink x.m 1⟩) (W' := { Q.W with w := w2 }) T1.p rfl ⟨rfl, rfl, rfl⟩ (bu_liftw (x := ⟨⟨x.st.n - 1, x.st.M⟩, x.hd, x.m⟩) (wd_bu T1.p) rfl S2))
  have H2 := T2.p
  have c6 := wd_cell H2 (i := 6) (by omega)
  have c7 : cellAt h2 (((⟨Q.wb, 0, none⟩ : Addr).add 6).add 1) = some (.int .i64 (x.m.n : Int)) := by have := wd_cell H2 (i := 7) (by omega); rw [add_mk] at this; rw [add_mk, add_mk]; exact this
  have c8 : cellAt h2 (((⟨Q.wb, 0, none⟩ : Addr).add 6).add 2) = some (.slice Q.fp Q.fn Q.fc) := by have := wd_cell H2 (i := 8) (by omega); rw [add_mk] at this; rw [add_mk, add_mk]; exact this
  have c9 : cellAt h2 (((⟨Q.wb, 0, none⟩ : Addr).add 6).add 3) = some (.slice Q.vp (r + 1) Q.vc) := by have := wd_cell H2 (i := 9) (by omega); rw [add_mk] at this; rw [add_mk, add_mk]; exact this
  have R2 : Row h2 Q.vp ((liveRow x.m.o (r + 1)).length * 2) (runV (liveRow x.m.o (r + 1))) := wd_row (Q := { Q with W := { Q.W with w := w2 } }) (x := ⟨⟨x.st.n - 1, x.st.M⟩, x.hd, mShrink x.m 1⟩) H2
  refine ⟨_, rfl, _, c6, _, c7, _, _, _, c8, _, _, _, c9, ?_⟩
  have hgo := ref5_Go_ok (w₀ := w₀) (h := h2) (K := fun v22 h22 => ∃ r22_0 : Int, ∃ r22_1 : Int, ∃ r22_2p : Option Addr, ∃ r22_2n : Nat, ∃ r22_2c : Nat, ∃ r22_3p : Option Addr, ∃ r22_3n : Nat, ∃ r22_3c : Nat, v22 = (.agg #[.int .i64 r22_0, .int .i64 r22_1, .slice r22_2p r22_2n r22_2c, .slice r22_3p r22_3n r22_3c]) ∧ (∃ a23 : Addr, (some (⟨Q.wb, 0, none⟩ : Addr) : Option Addr) = some a23 ∧ (WrN h22 (a23.add 6) 4 ∧ K (.bool true) (setCs h22 (a23.add 6) 0 [.int .i64 r22_0, .int .i64 r22_1, .slice r22_2p r22_2n r22_2c, .slice r22_3p r22_3n r22_3c]))))
    (fp := Q.fp) (fn := Q.fn) (fc := Q.fc) (vp := Q.vp) (vc := Q.vc) (l := liveRow x.m.o (r + 1)) (on := x.m.o) (Pn := x.m.n) o8 n1 hle (by rw [liveRow_len]; omega) R2 fun h5 vp' vc' N5 => ?_
  · rw [liveRow_len] at hgo
    exact hgo
  · have ef : x.m.n - 2 ^ x.m.o = r * 2 ^ x.m.o := by rw [hr, Nat.succ_mul]; omega
    have el : (liveRow x.m.o (r + 1)).filter (·.1 ≠ ((x.m.n - 2 ^ x.m.o : Nat) : Int)) = liveRow x.m.o r := by rw [ef]; exact liveRow_less _ _
    rw [el, liveRow_len] at N5
    rw [el, liveRow_len]
    obtain ⟨w6, S6⟩ := wd_setd (P' := x.m.n - 2 ^ x.m.o) T2.p N5
    exact ⟨_, _, _, _, _, _, _, _, rfl, _, rfl, w6, hK _ ⟨Q.wb, { Q.W with w := w2 }, Q.fp, Q.fn, Q.fc, vp', vc'⟩ rfl (T2.trans S6)⟩

theorem at_ok (hx : BU.Ok c x) (H : (wdR c Q P r x).P h) {q : Nat} (hq : q < 4096) (hK : K (.int .u64 (adr c q)) h) :
    CallV Try.prog w₀ F.croftlaw5_world_at [.pointer (some ⟨Q.wb, 0, none⟩), .int .i64 (q : Int)] h K := by
  refine croftlaw5_world_at.call ⟨_, rfl, _, wd_c0 H, ?_⟩
  have hb := bu_bounds (bu_good (wd_bu H)) hx.m
  have e : IntKind.wrap .u64 (c.base + IntKind.wrap .u64 ((4096 : Int) * IntKind.wrap .u64 (q : Int))) = adr c q := by
    simp only [IntKind.wrap_u64]
    unfold adr
    omega
  rw [e]
  exact hK

theorem page_ok {p : Int} (hp : U64 p) (hx : BU.Ok c x) (H : (wdR c Q x.m.n r x).P h) (hK : K (.int .i64 (pgI (pageU c x.m p))) h) :
    CallV Try.prog w₀ F.croftlaw5_world_page [.pointer (some ⟨Q.wb, 0, none⟩), .int .u64 p] h K := by
  refine croftlaw5_world_page.call ?_
  unfold croftlaw5_world_page.vc
  have hb := bu_bounds (bu_good (wd_bu H)) hx.m
  have p0 := hp.1
  have p1 := hp.2
  have bad : (p < c.base ∨ p % 4096 ≠ 0 ∨ (x.m.n : Int) ≤ (p - c.base) / 4096) → K (.int .i64 (-1)) h := fun hc => by
    have e : pageU c x.m p = none := by unfold pageU; rw [if_pos hc]
    rw [e] at hK; exact hK
  refine ⟨_, rfl, _, wd_c0 H, fun J1 hJ1 => ?_⟩
  by_cases a1 : p < c.base
  · exact pT (decide_eq_true a1) (hJ1 _ _ fun J2 hJ2 => pT rfl (hJ2 _ _ (iT rfl (bad (.inl a1)))))
  refine pF (decide_eq_false a1) ⟨by omega, hJ1 _ _ fun J2 hJ2 => ?_⟩
  have em : Int.tmod p 4096 = p % 4096 := Int.tmod_eq_emod_of_nonneg p0
  rw [em]
  by_cases a2 : p % 4096 = 0
  · refine pF (eq_b a2) ⟨_, rfl, _, wd_c0 H, _, rfl, _, wd_cell H (i := 7) (by omega), hJ2 _ _ ?_⟩
    have e1 : IntKind.wrap .u64 (p - c.base) = p - c.base := by rw [IntKind.wrap_u64]; omega
    have e2 : IntKind.wrap .u64 ((4096 : Int) * IntKind.wrap .u64 ((x.m.n : Nat) : Int)) = 4096 * (x.m.n : Int) := by simp only [IntKind.wrap_u64]; omega
    have e3 : Int.tdiv (p - c.base) 4096 = (p - c.base) / 4096 := Int.tdiv_eq_ediv_of_nonneg (by omega)
    rw [e1, e2]
    by_cases a3 : (x.m.n : Int) ≤ (p - c.base) / 4096
    · exact iT (decide_eq_true (by omega)) (bad (.inr (.inr a3)))
    · refine iF (decide_eq_false (by omega)) ⟨_, rfl, _, wd_c0 H, by omega, ?_⟩
      have e : pageU c x.m p = some ((p - c.base) / 4096).toNat := by unfold pageU; rw [if_neg (by omega)]
      rw [e] at hK
      have ev : IntKind.wrap .i64 (IntKind.wrap .u64 (Int.tdiv (IntKind.wrap .u64 (p - c.base)) 4096)) = (((p - c.base) / 4096).toNat : Int) := by
        rw [e1, e3, IntKind.wrap_u64, IntKind.wrap_i64]; omega
      rw [ev]
      exact hK
  · exact pT (ne_b a2) (hJ2 _ _ (iT rfl (bad (.inr (.inl a2)))))

theorem ints_ok {xs ys : List Int} {p q : Option Addr} {cp cq : Nat} (hx : xs.length < 4611686018427387904) (P : Row h p xs.length (uL xs)) (Q : Row h q ys.length (uL ys)) (hK : K (.bool (decide (xs = ys))) h) :
    CallV Try.prog w₀ F.croftlaw5_ints [.slice p xs.length cp, .slice q ys.length cq] h K := by
  refine croftlaw5_ints.call ?_
  unfold croftlaw5_ints.vc
  by_cases hl : xs.length = ys.length
  · refine iF (by simp [hl]) fun J1 hJ1 L2 hL2 => ?_
    have loop : ∀ (k i : Nat), i + k = xs.length → (∀ j, j < i → xs[j]? = ys[j]?) → L2 [.slice p xs.length cp, .slice q ys.length cq, .int .i64 ((i : Nat) : Int)] h := by
      intro k
      induction k with
      | zero =>
        intro i hi he
        refine hL2 _ _ _ _ _ _ _ _ (iF (decide_eq_false (by omega)) (hJ1 _ ?_))
        have : xs = ys := List.ext_getElem? fun j => by
          rcases Nat.lt_or_ge j i with h1 | h1
          · exact he j h1
          · rw [List.getElem?_eq_none (by omega), List.getElem?_eq_none (by omega)]
        rwa [decide_eq_true this] at hK
      | succ k ih =>
        intro i hi he
        refine hL2 _ _ _ _ _ _ _ _ (iT (decide_eq_true (by omega)) ?_)
        rcases P with P | ⟨b, o, rfl, P⟩
        · omega
        rcases Q with Q | ⟨b', o', rfl, Q⟩
        · omega
        refine ⟨_, rfl, by omega, Int.ofNat_lt.2 (by omega), xs.getD i 0, ?_, _, rfl, by omega, Int.ofNat_lt.2 (by omega), ys.getD i 0, ?_, ?_⟩
        · simp only [add_mk, Int.toNat_natCast, Nat.mul_one]; exact P i (by omega)
        · simp only [add_mk, Int.toNat_natCast, Nat.mul_one]; exact Q i (by omega)
        by_cases hv : xs.getD i 0 = ys.getD i 0
        · refine iF (eq_b hv) ?_
          rw [IntWalk.i64_in _ (by omega)]
          have := ih (i + 1) (by omega) fun j hj => by
            rcases Nat.lt_or_ge j i with h1 | h1
            · exact he j h1
            · have : j = i := by omega
              subst this
              rw [List.getD_eq_getElem?_getD, List.getD_eq_getElem?_getD, List.getElem?_eq_getElem (by omega), List.getElem?_eq_getElem (by omega)] at hv
              rw [List.getElem?_eq_getElem (by omega), List.getElem?_eq_getElem (by omega)]
              simpa using hv
          simpa using this
        · refine iT (ne_b hv) ?_
          have : xs ≠ ys := fun e => hv (by rw [e])
          rwa [decide_eq_false this] at hK
    exact loop xs.length 0 (by omega) fun j hj => by omega
  · refine iT (by simpa using fun e => hl (by omega)) ?_
    have : xs ≠ ys := fun e => hl (by rw [e])
    rwa [decide_eq_false this] at hK

end

/-- What is cut keeps its bytes. -/
theorem cut_keep {c : Cfg} {L : List PBk} {page to : Nat} : ∀ (d : Nat) (x : BU) (F : Nat → List Nat), Rep c x F L [(page, to + d)] → Kept [(page, to)] x.st (cutU c page to x d).st
  | 0, x, F, R => Kept.refl _ _
  | d + 1, x, F, R => by
    have R1 : Rep c x F L [(page + 2 ^ (to + d), to + d), (page, to + d)] := { R with til := (R.til.split).perm (.swap _ _ _) }
    have al0 := R.til.al _ (List.mem_cons_self ..)
    have al := R1.til.al _ (List.mem_cons_self ..)
    simp only [] at al al0
    have h0 := Nat.two_pow_pos (to + d)
    have hlt : page + 2 ^ (to + d) < x.m.n := by omega
    have nbp : to + d < x.m.o → bud (page + 2 ^ (to + d)) (to + d) ∉ F (to + d) := fun _ hm => by
      rw [(bud_up (p := page) (k := to + d) al0.2.1).1] at hm
      have e := R1.til.uniq (R1.mem al.1 hm) (List.mem_cons_of_mem _ (List.mem_cons_self ..)) cov_self cov_self
      have nd := R1.til.nodup
      exact (List.nodup_append.1 nd).2.2 (page, to + d) (by simp) (page, to + d) (List.mem_append_right _ (mem_blks.2 ⟨al.1, hm⟩)) rfl
    have hen : (enterU c x (page + 2 ^ (to + d)) (to + d)).m = runU x.m (page + 2 ^ (to + d)) (to + d) 0 := rfl
    have tb := turnU_bt (enterU c x (page + 2 ^ (to + d)) (to + d)).m (i := page + 2 ^ (to + d)) (r := to + d) (by simpa using hlt)
    obtain ⟨R2, K2⟩ := enter_core (x' := { enterU c x (page + 2 ^ (to + d)) (to + d) with m := (turnU (enterU c x (page + 2 ^ (to + d)) (to + d)).m (page + 2 ^ (to + d)) (to + d)).1 }) R1 nbp
      (turn_b (enter_b R.ok _ _)) (by simp) (by simp) (by simp only [turnU_pg]; rw [hen]; exact runU_pg _ ⟨al.1, al.2.1, al.2.2⟩)
      (fun h => by rw [(tb.1 (by simpa using h)).1, hen, runU_bt]) (fun h => by rw [(tb.2 (by simpa using h)).1, hen, runU_bt]) rfl rfl
    have G := cut_keep d _ _ R2
    have npF : page + 2 ^ (to + d) ∉ F (to + d) := fun hm => R1.apart (List.mem_append_right _ (mem_blks.2 ⟨al.1, hm⟩)) cov_self cov_self
    obtain ⟨e1, e2, e3⟩ := push_inv (x := ⟨x.st, x.hd (to + d)⟩) R.rm (R.ls (to + d) al.1) (p := adr c (page + 2 ^ (to + d))) ⟨_, hlt, rfl⟩ (fun h => npF (adr_mem.1 h))
    have e3 : Frm c (((page + 2 ^ (to + d)) :: F (to + d)).map (adr c)) x.st (enterU c x (page + 2 ^ (to + d)) (to + d)).st := e3
    have hp1 : 2 ^ to ≤ 2 ^ (to + d) := Nat.pow_le_pow_right (by omega) (by omega)
    have hp2 : 2 ^ to ≤ 2 ^ (to + (d + 1)) := Nat.pow_le_pow_right (by omega) (by omega)
    refine Kept.trans ⟨e3.1, fun b hb o h1 h2 => e3.2 o fun a ha => ?_⟩ G
    obtain ⟨q, hq, rfl⟩ := List.mem_map.1 ha
    have hb : b = (page, to) := by simpa using hb
    subst hb
    simp only [] at h1 h2
    have e : (adr c q - c.base).toNat = 4096 * q := by unfold adr; omega
    rw [e]
    rcases List.mem_cons.1 hq with rfl | hq
    · left; omega
    · refine Classical.byContradiction fun hno => ?_
      refine R.apart (List.mem_append_right _ (mem_blks.2 ⟨al.1, hq⟩)) cov_self ?_
      exact ⟨by simp only []; omega, by simp only []; omega⟩

/-- What a world stands for. -/
structure WI (c : Cfg) (x : BU) (F : Nat → List Nat) (L : List PBk) : Prop where
  rep : Rep c x F L []
  e : x.m.n = x.st.n * 2 ^ x.m.o
  g : c.Good

/-- What stays. -/
structure Mv (x x' : BU) (L : List PBk) : Prop where
  k : Kept L x.st x'.st
  o : x'.m.o = x.m.o
  n : x'.m.n = x.m.n

abbrev wsR (c : Cfg) (Q : WW) (x : BU) : Res := wdR c Q x.m.n x.st.n x

section
variable {w₀ : World} {h h' : Heap} {c : Cfg} {Q : WW} {x : BU} {K : Value → Heap → Prop} {fl : Nat → List Nat} {L L' : List PBk} {p k : Nat}

theorem WI.ok (W : WI c x fl L) : BU.Ok c x := W.rep.ok
theorem WI.perm (W : WI c x fl L) (h : L.Perm L') : WI c x fl L' := ⟨W.rep.permL h, W.e, W.g⟩

theorem ws_lift {x' : BU} (H : (wsR c Q x).P h) (M : Mv x x' L) (S : Stp h h' (buR c Q.W x) (buR c Q.W x')) : Stp h h' (wsR c Q x) (wsR c Q x') := by
  have := wd_lift' H M.o S
  unfold wsR
  rw [M.n, M.k.1]
  exact this

theorem WI.mv {x' : BU} {F' : Nat → List Nat} {L0 : List PBk} (W : WI c x fl L) (G : Go' c x x' F' L0 L') : WI c x' F' L' ∧ Mv x x' L0 :=
  ⟨⟨G.r, by rw [G.n, G.k.1, G.o]; exact W.e, W.g⟩, ⟨G.k, G.o, G.n⟩⟩

theorem takeW (W : WI c x fl L) (H : (wsR c Q x).P h) {o : Nat} (ho : o ≤ x.m.o)
    (h2 : (∀ j, o ≤ j → j ≤ x.m.o → fl j = []) → ∀ h', Stp h h' (wsR c Q x) (wsR c Q x) → K (.tuple #[.int .u64 0, .int .i64 2]) h')
    (h0 : ∀ j p l, o ≤ j → j ≤ x.m.o → fl j = p :: l → (∀ i, o ≤ i → i < j → fl i = []) → ∀ x' h', WI c x' (aCut p o (fset fl j l) (j - o)) ((p, o) :: L) → Mv x x' L → Stp h h' (wsR c Q x) (wsR c Q x') → K (.tuple #[.int .u64 (adr c p), .int .i64 0]) h') :
    CallV Try.prog w₀ F.buddy_Buddy_Take [.pointer (some ⟨Q.W.b, 0, none⟩), .int .i64 (o : Int)] h K := by
  refine bu_Take_ok W.ok (wd_bu H) fun h' ok' o' S => ?_
  rcases sim_take W.g ho W.rep with ⟨e, hF⟩ | ⟨j, p, l, j1, j2, hF, hi, e, G⟩
  · rw [e] at S ⊢
    exact h2 hF h' (wd_lift' H rfl S)
  · obtain ⟨W', M⟩ := W.mv G
    rw [e]
    exact h0 j p l j1 j2 hF hi _ h' W' M (ws_lift H M S)

/-- A wrong order is refused. -/
theorem takeN (W : WI c x fl L) (H : (wsR c Q x).P h) {o : Int} (ho : o < 0 ∨ o > x.m.o) (hK : ∀ h', Stp h h' (wsR c Q x) (wsR c Q x) → K (.tuple #[.int .u64 0, .int .i64 1]) h') :
    CallV Try.prog w₀ F.buddy_Buddy_Take [.pointer (some ⟨Q.W.b, 0, none⟩), .int .i64 o] h K := by
  refine bu_Take_ok W.ok (wd_bu H) fun h' ok' o' S => ?_
  have e : takeU c x o = (x, 0, 1) := by unfold takeU; rw [if_pos ho]
  rw [e] at S ⊢
  exact hK h' (wd_lift' H rfl S)

theorem giveW (W : WI c x fl L) (H : (wsR c Q x).P h) (hL : L.Perm ((p, k) :: L'))
    (hK : ∀ x' h', WI c x' (aUp fl p k (x.m.o - k)) L' → Mv x x' L' → Stp h h' (wsR c Q x) (wsR c Q x') → K (.int .i64 0) h') :
    CallV Try.prog w₀ F.buddy_Buddy_Give [.pointer (some ⟨Q.W.b, 0, none⟩), .int .u64 (adr c p), .int .i64 (k : Int)] h K := by
  have al := W.rep.til.al _ (List.mem_append_right _ (List.mem_append_left _ (hL.mem_iff.2 (List.mem_cons_self ..))))
  have n1 := W.ok.m.n1
  have h0 := Nat.two_pow_pos k
  simp only [] at al
  refine bu_Give_ok (adr_u64 W.g W.ok.m (by omega)) W.ok (wd_bu H) fun h' ok' o' S => ?_
  obtain ⟨e, G⟩ := sim_give W.g W.rep hL
  obtain ⟨W', M⟩ := W.mv G
  rw [e]
  exact hK _ h' W' M (ws_lift H M S)

theorem giveN (W : WI c x fl L) (H : (wsR c Q x).P h) {a o : Int} (ha : U64 a) (hL : ∀ b ∈ L, ¬ (a = adr c b.1 ∧ o = b.2)) (hK : ∀ h', Stp h h' (wsR c Q x) (wsR c Q x) → K (.int .i64 1) h') :
    CallV Try.prog w₀ F.buddy_Buddy_Give [.pointer (some ⟨Q.W.b, 0, none⟩), .int .u64 a, .int .i64 o] h K := by
  refine bu_Give_ok ha W.ok (wd_bu H) fun h' ok' o' S => ?_
  have e := give_no W.g W.rep hL
  rw [e] at S ⊢
  exact hK h' (wd_lift' H rfl S)

theorem shrinkW (W : WI c x fl L) (H : (wsR c Q x).P h) {t : Nat} (ht : t ≤ k) (hL : L.Perm ((p, k) :: L'))
    (hK : ∀ x' h', WI c x' (aCut p t fl (k - t)) ((p, t) :: L') → Mv x x' L' → Kept [(p, t)] x.st x'.st → Stp h h' (wsR c Q x) (wsR c Q x') → K (.int .i64 0) h') :
    CallV Try.prog w₀ F.buddy_Buddy_Shrink [.pointer (some ⟨Q.W.b, 0, none⟩), .int .u64 (adr c p), .int .i64 (k : Int), .int .i64 (t : Int)] h K := by
  have al := W.rep.til.al _ (List.mem_append_right _ (List.mem_append_left _ (hL.mem_iff.2 (List.mem_cons_self ..))))
  have n1 := W.ok.m.n1
  have h0 := Nat.two_pow_pos k
  simp only [] at al
  refine bu_Shrink_ok (adr_u64 W.g W.ok.m (by omega)) W.ok (wd_bu H) fun h' ok' o' S => ?_
  obtain ⟨e, G⟩ := sim_shrink W.g ht W.rep hL
  obtain ⟨W', M⟩ := W.mv G
  have hK2 : Kept [(p, t)] x.st (shrinkU c x (adr c p) k t).1.st := by
    have hm : (p, k) ∈ L := hL.mem_iff.2 (List.mem_cons_self ..)
    have e : shrinkU c x (adr c p) k t = (cutU c p t x (k - t), 0) := by unfold shrinkU; rw [liveU_yes W.g W.rep hm]; simp only []; rw [if_neg (by omega)]; simp
    rw [e]
    refine cut_keep (L := L') _ _ fl ?_
    rw [show t + (k - t) = k by omega]
    exact open_core W.rep hL
  rw [e]
  exact hK _ h' W' M hK2 (ws_lift H M S)

theorem feedW (W : WI c x fl L) (H : (wsR c Q x).P h) (hn : 0 < x.st.n) (hL : L.Perm ((x.m.n - 2 ^ x.m.o, x.m.o) :: L'))
    (hK : ∀ x' h', WI c x' (aUp fl (x.m.n - 2 ^ x.m.o) x.m.o 0) L' → Mv x x' L' → Stp h h' (wsR c Q x) (wsR c Q x') → K (.int .i64 0) h') :
    CallV Try.prog w₀ F.buddy_Buddy_Feed [.pointer (some ⟨Q.W.b, 0, none⟩)] h K := by
  refine bu_Feed_ok W.ok (wd_bu H) fun h' ok' o' S => ?_
  obtain ⟨e, G⟩ := sim_feed W.g W.rep hn W.e hL
  obtain ⟨W', M⟩ := W.mv G
  rw [e]
  exact hK _ h' W' M (ws_lift H M S)

theorem feedN (W : WI c x fl L) (H : (wsR c Q x).P h) (hL : ∀ b ∈ L, ¬ (b.1 = x.m.n - 2 ^ x.m.o ∧ b.2 = x.m.o)) (hK : ∀ h', Stp h h' (wsR c Q x) (wsR c Q x) → K (.int .i64 9) h') :
    CallV Try.prog w₀ F.buddy_Buddy_Feed [.pointer (some ⟨Q.W.b, 0, none⟩)] h K := by
  refine bu_Feed_ok W.ok (wd_bu H) fun h' ok' o' S => ?_
  have e := feed_no W.g W.rep hL
  rw [e] at S ⊢
  exact hK h' (wd_lift' H rfl S)

theorem pullW (W : WI c x fl L) (H : (wsR c Q x).P h) (hn : 0 < x.st.n) (hF : x.m.n - 2 ^ x.m.o ∈ fl x.m.o)
    (hK : ∀ x' h', WI c x' (fset fl x.m.o ((fl x.m.o).filter (· ≠ x.m.n - 2 ^ x.m.o))) ((x.m.n - 2 ^ x.m.o, x.m.o) :: L) → Mv x x' L → Stp h h' (wsR c Q x) (wsR c Q x') → K (.int .i64 0) h') :
    CallV Try.prog w₀ F.buddy_Buddy_Pull [.pointer (some ⟨Q.W.b, 0, none⟩)] h K := by
  refine bu_Pull_ok W.ok (wd_bu H) fun h' ok' o' S => ?_
  obtain ⟨e, G⟩ := sim_pull W.rep hn W.e hF
  obtain ⟨W', M⟩ := W.mv G
  rw [e]
  exact hK _ h' W' M (ws_lift H M S)

theorem pullN (W : WI c x fl L) (H : (wsR c Q x).P h) (hF : x.m.n - 2 ^ x.m.o ∉ fl x.m.o) (hK : ∀ h', Stp h h' (wsR c Q x) (wsR c Q x) → K (.int .i64 9) h') :
    CallV Try.prog w₀ F.buddy_Buddy_Pull [.pointer (some ⟨Q.W.b, 0, none⟩)] h K := by
  refine bu_Pull_ok W.ok (wd_bu H) fun h' ok' o' S => ?_
  have e := pull_no W.rep hF
  rw [e] at S ⊢
  exact hK h' (wd_lift' H rfl S)

theorem WI.nr (W : WI c x fl L) : x.st.n ≤ 1024 := by
  have h1 := W.e
  have h2 := W.ok.m.n1
  have h5 : x.st.n * 1 ≤ x.st.n * 2 ^ x.m.o := Nat.mul_le_mul_left _ (Nat.one_le_two_pow)
  omega

theorem comeW (W : WI c x fl L) (H : (wsR c Q x).P h) (hl : (x.st.n : Int) < c.limit)
    (hK : ∀ x' h' (Q' : WW), Q'.wb = Q.wb → WI c x' fl ((x.m.n, x.m.o) :: L) → x'.m.o = x.m.o → x'.m.n = x.m.n + 2 ^ x.m.o → x'.st.n = x.st.n + 1 →
      (∀ b ∈ L, ∀ o, 4096 * b.1 ≤ o → o < 4096 * (b.1 + 2 ^ b.2) → x'.st.M o = x.st.M o) → Stp h h' (wsR c Q x) (wsR c Q' x') → K (.bool true) h') :
    CallV Try.prog w₀ F.croftlaw5_world_come [.pointer (some ⟨Q.wb, 0, none⟩)] h K := by
  refine come_ok W.ok W.e W.e hl H fun h' Q' eQ hroom S => ?_
  obtain ⟨R, eo, en, hM⟩ := sim_come W.g W.rep W.e hroom
  refine hK ⟨growS c x.st, x.hd, mGrow x.m⟩ h' Q' eQ ⟨R, ?_, W.g⟩ eo en rfl hM ?_
  · show (mGrow x.m).n = (x.st.n + 1) * 2 ^ (mGrow x.m).o
    rw [eo, en, Nat.succ_mul, ← W.e]
  · show Stp h h' _ (wdR c Q' (mGrow x.m).n (x.st.n + 1) _)
    rw [en]
    exact S

theorem goesW (W : WI c x fl ((x.m.n - 2 ^ x.m.o, x.m.o) :: L)) (H : (wsR c Q x).P h) (hn : 0 < x.st.n)
    (hK : ∀ x' h' (Q' : WW), Q'.wb = Q.wb → WI c x' fl L → x'.m.o = x.m.o → x'.m.n = x.m.n - 2 ^ x.m.o → x'.st = ⟨x.st.n - 1, x.st.M⟩ → Stp h h' (wsR c Q x) (wsR c Q' x') → K (.bool true) h') :
    CallV Try.prog w₀ F.croftlaw5_world_goes [.pointer (some ⟨Q.wb, 0, none⟩)] h K := by
  obtain ⟨r, hr⟩ : ∃ r, x.st.n = r + 1 := ⟨x.st.n - 1, by omega⟩
  have e := W.e
  have hle : 2 ^ x.m.o ≤ x.m.n := by rw [e, hr, Nat.succ_mul]; exact Nat.le_add_left _ _
  have H' : (wdR c Q x.m.n (r + 1) x).P h := by rw [← hr]; exact H
  refine goes_ok W.ok (by rw [← hr]; exact e) hr H' fun h' Q' eQ S => ?_
  obtain ⟨R, eo, en⟩ := sim_goes W.rep e hle
  refine hK ⟨⟨x.st.n - 1, x.st.M⟩, x.hd, mShrink x.m 1⟩ h' Q' eQ ⟨R, ?_, W.g⟩ eo en rfl ?_
  · show (mShrink x.m 1).n = (x.st.n - 1) * 2 ^ (mShrink x.m 1).o
    rw [eo, en, e, Nat.sub_mul, Nat.one_mul]
  · show Stp h h' _ (wdR c Q' (mShrink x.m 1).n (x.st.n - 1) _)
    rw [en]
    have e1 : x.st.n - 1 = r := by omega
    rw [e1] at S ⊢
    rw [← hr] at S
    exact S

theorem bu_bop {W : BW} (H : (buR c W x).P h) : (bopR c W.s W.mb W.b W.lp (x.m.o + 1) W.lc W.lb x.hd).P h :=
  ⟨H.1.1, ⟨H.1.2.1, H.2.1.1.1, fun b e e' => H.2.2 b (.inr e) (.inl (.inl e'))⟩, fun b e e' => by
    rcases e' with e' | e'
    · exact H.1.2.2 b e e'
    · exact H.2.2 b (.inl e) (.inl (.inl e'))⟩

/-- Heads. -/
def hdL (c : Cfg) (fl : Nat → List Nat) (o : Nat) : List Int := (List.range (o + 1)).map fun k => ((fl k).map (adr c)).headD 0

theorem hdL_len (c : Cfg) (fl : Nat → List Nat) (o : Nat) : (hdL c fl o).length = o + 1 := by simp [hdL]

theorem headsW (W : WI c x fl L) (H : (wsR c Q x).P h) (hK : ∀ h' p cap, New h h' (slR p (hdL c fl x.m.o).length cap 1 (uL (hdL c fl x.m.o))) → K (.slice p (hdL c fl x.m.o).length (hdL c fl x.m.o).length) h') :
    CallV Try.prog w₀ F.buddy_Buddy_Heads [.pointer (some ⟨Q.W.b, 0, none⟩)] h K := by
  have o8 := W.ok.m.o8
  rw [hdL_len] at hK
  refine bu_Heads_ok (by omega) (bu_bop (wd_bu H)) fun h' p cap hc N => hK h' p cap (N.conv (fun A => sl_congr A fun i hi => ?_) fun _ e => e)
  have hi : i < x.m.o + 1 := by omega
  have e := (W.rep.ls i (by omega)).hd
  simp only [] at e
  show Value.int .u64 (x.hd i) = .int .u64 ((hdL c fl x.m.o).getD i 0)
  rw [e]
  unfold hdL
  rw [List.getD_eq_getElem?_getD, List.getElem?_map, List.getElem?_range hi]
  simp only [Option.map_some, Option.getD_some]

theorem freeW (W : WI c x fl L) (H : (wsR c Q x).P h) {o : Nat} (ho : o ≤ x.m.o)
    (hK : ∀ h' p cap, Stp h h' (wsR c Q x) (andR (wsR c Q x) (slR p ((fl o).map (adr c)).length cap 1 (uL ((fl o).map (adr c))))) → K (.slice p ((fl o).map (adr c)).length cap) h') :
    CallV Try.prog w₀ F.buddy_Buddy_Free [.pointer (some ⟨Q.W.b, 0, none⟩), .int .i64 (o : Int)] h K := by
  refine bu_Free_ok W.ok (wd_bu H) (fun hc => absurd hc (by omega)) fun k h' p cap ek hk S => ?_
  have ek : k = o := by omega
  subst ek
  have e : freeL c x k = (fl k).map (adr c) := all_inv W.rep.rm (W.rep.ls k hk)
  rw [e] at S ⊢
  refine hK h' p cap ?_
  refine (S.right H).conv (fun A => ⟨⟨A.1, A.2.1.1, fun b e e' => A.2.2 b e (.inl e')⟩, A.2.1.2.1, fun b e e' => ?_⟩) fun b e => ?_
  · rcases e with e | e
    · exact A.2.2 b e (.inr e')
    · exact A.2.1.2.2 b e e'
  · rcases e with (e | e) | e
    · exact .inl e
    · exact .inr (.inl e)
    · exact .inr (.inr e)

theorem freeN (W : WI c x fl L) (H : (wsR c Q x).P h) {o : Int} (ho : o < 0 ∨ o > x.m.o) (hK : K (.slice none 0 0) h) :
    CallV Try.prog w₀ F.buddy_Buddy_Free [.pointer (some ⟨Q.W.b, 0, none⟩), .int .i64 o] h K :=
  bu_Free_ok W.ok (wd_bu H) (fun _ => hK) fun k h' p cap ek hk _ => absurd ho (by omega)
end
end Go.Proofs.Ytnlcmfdmbgnpfaa
