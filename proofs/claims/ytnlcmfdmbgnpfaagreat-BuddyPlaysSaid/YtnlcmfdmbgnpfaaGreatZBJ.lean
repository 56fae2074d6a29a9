/- croftlaw5: a world: goes, at, page, ints; what a call does to what a world stands for. No condition. -/
import Derived.Test.YtnlcmfdmbgnpfaaGreatZBI
set_option linter.unusedSimpArgs false
set_option linter.unusedVariables false
namespace Go.Proofs.YtnlcmfdmbgnpfaaGreat
open Go.V Classical

def pgI : Option Nat → Int
  | none => -1
  | some q => (q : Int)

section
variable {w₀ : World} {h h' : Heap} {c : Cfg} {Q : WW} {P r : Nat} {x : BU} {K : Value → Heap → Prop}

theorem ints_ok {xs ys : List Int} {p q : Option Addr} {cp cq : Nat} (hx : xs.length < 4611686018427387904) (P : Row h p xs.length (uL xs)) (Q : Row h q ys.length (uL ys)) (hK : K (.bool (decide (xs = ys))) h) :
    CallV Tryz.prog w₀ F.croftlaw5_ints [.slice p xs.length cp, .slice q ys.length cq] h K := by
  refine croftlaw5_ints.call ?_
  unfold croftlaw5_ints.vc
  by_cases hl : xs.length = ys.length
  · refine iF (by simp [hl]) fun J1 hJ1 L2 hL2 => ?_
    have loop : ∀ (k i : Nat), i + k = xs.length → (∀ j, j < i → xs[j]? = ys[j]?) → L2 [.slice p xs.length cp, .slice q ys.length cq, .int .i64 ((i : Nat) : Int)] h := by
      intro k
      induction k with
      | zero =>
        intro i hi he
        refine hL2 _ _ _ _ _ _ _ _ (iF (decide_eq_false (by omega)) (hJ1 _ ?_))
        have : xs = ys := List.ext_getElem? fun j => by
          rcases Nat.lt_or_ge j i with h1 | h1
          · exact he j h1
          · rw [List.getElem?_eq_none (by omega), List.getElem?_eq_none (by omega)]
        rwa [decide_eq_true this] at hK
      | succ k ih =>
        intro i hi he
        refine hL2 _ _ _ _ _ _ _ _ (iT (decide_eq_true (by omega)) ?_)
        rcases P with P | ⟨b, o, rfl, P⟩
        · omega
        rcases Q with Q | ⟨b', o', rfl, Q⟩
        · omega
        refine ⟨_, rfl, by omega, Int.ofNat_lt.2 (by omega), xs.getD i 0, ?_, _, rfl, by omega, Int.ofNat_lt.2 (by omega), ys.getD i 0, ?_, ?_⟩
        · simp only [add_mk, Int.toNat_natCast, Nat.mul_one]; exact P i (by omega)
        · simp only [add_mk, Int.toNat_natCast, Nat.mul_one]; exact Q i (by omega)
        by_cases hv : xs.getD i 0 = ys.getD i 0
        · refine iF (eq_b hv) ?_
          rw [IntWalk.i64_in _ (by omega)]
          have := ih (i + 1) (by omega) fun j hj => by
            rcases Nat.lt_or_ge j i with h1 | h1
            · exact he j h1
            · have : j = i := by omega
              subst this
              rw [List.getD_eq_getElem?_getD, List.getD_eq_getElem?_getD, List.getElem?_eq_getElem (by omega), List.getElem?_eq_getElem (by omega)] at hv
              rw [List.getElem?_eq_getElem (by omega), List.getElem?_eq_getElem (by omega)]
              simpa using hv
          simpa using this
        · refine iT (ne_b hv) ?_
          have : xs ≠ ys := fun e => hv (by rw [e])
          rwa [decide_eq_false this] at hK
    exact loop xs.length 0 (by omega) fun j hj => by omega
  · refine iT (by simpa using fun e => hl (by omega)) ?_
    have : xs ≠ ys := fun e => hl (by rw [e])
    rwa [decide_eq_false this] at hK

end

theorem cut_keep {S : Nat → Prop} {c : Cfg} {L : List PBk} {page to : Nat} : ∀ (d : Nat) (x : BU) (F : Nat → List Nat), RepS S c x F L [(page, to + d)] → Kept [(page, to)] x.st (cutU c page to x d).st
  | 0, x, F, R => Kept.refl _ _
  | d + 1, x, F, R => by
    have R1 : RepS S c x F L [(page + 2 ^ (to + d), to + d), (page, to + d)] := { R with til := (R.til.split).perm (.swap _ _ _) }
    have al0 := R.til.al _ (List.mem_cons_self ..)
    have al := R1.til.al _ (List.mem_cons_self ..)
    simp only [] at al al0
    have h0 := Nat.two_pow_pos (to + d)
    have hlt : page + 2 ^ (to + d) < x.m.n := by omega
    have nbp : to + d < x.m.o → bud (page + 2 ^ (to + d)) (to + d) ∉ F (to + d) := fun _ hm => by
      rw [(bud_up (p := page) (k := to + d) al0.2.1).1] at hm
      have e := R1.til.uniq (R1.mem al.1 hm) (List.mem_cons_of_mem _ (List.mem_cons_self ..)) cov_self cov_self
      have nd := R1.til.nodup
      exact (List.nodup_append.1 nd).2.2 (page, to + d) (by simp) (page, to + d) (List.mem_append_right _ (mem_blks.2 ⟨al.1, hm⟩)) rfl
    have hen : (enterU c x (page + 2 ^ (to + d)) (to + d)).m = runU x.m (page + 2 ^ (to + d)) (to + d) 0 := rfl
    have tb := turnU_bt (enterU c x (page + 2 ^ (to + d)) (to + d)).m (i := page + 2 ^ (to + d)) (r := to + d) (by simpa using hlt)
    obtain ⟨R2, K2, _⟩ := enter_core (x' := { enterU c x (page + 2 ^ (to + d)) (to + d) with m := (turnU (enterU c x (page + 2 ^ (to + d)) (to + d)).m (page + 2 ^ (to + d)) (to + d)).1 }) R1 nbp
      (turn_b (enter_b R.ok _ _)) (by simp) (by simp) (by simp only [turnU_pg]; rw [hen]; exact runU_pg _ ⟨al.1, al.2.1, al.2.2⟩)
      (fun h => by rw [(tb.1 (by simpa using h)).1, hen, runU_bt]) (fun h => by rw [(tb.2 (by simpa using h)).1, hen, runU_bt]) rfl rfl
    have G := cut_keep d _ _ R2
    have npF : page + 2 ^ (to + d) ∉ F (to + d) := fun hm => R1.apart (List.mem_append_right _ (mem_blks.2 ⟨al.1, hm⟩)) cov_self cov_self
    obtain ⟨e1, e2, e3⟩ := push_inv (x := ⟨x.st, x.hd (to + d)⟩) R.rm (R.ls (to + d) al.1) (p := adr c (page + 2 ^ (to + d))) ⟨_, hlt, rfl⟩ (fun h => npF (adr_mem.1 h))
    have e3 : Frm c (((page + 2 ^ (to + d)) :: F (to + d)).map (adr c)) x.st (enterU c x (page + 2 ^ (to + d)) (to + d)).st := e3
    have hp1 : 2 ^ to ≤ 2 ^ (to + d) := Nat.pow_le_pow_right (by omega) (by omega)
    have hp2 : 2 ^ to ≤ 2 ^ (to + (d + 1)) := Nat.pow_le_pow_right (by omega) (by omega)
    refine Kept.trans ⟨e3.1, fun b hb o h1 h2 => e3.2 o fun a ha => ?_⟩ G
    obtain ⟨q, hq, rfl⟩ := List.mem_map.1 ha
    have hb : b = (page, to) := by simpa using hb
    subst hb
    simp only [] at h1 h2
    have e : (adr c q - c.base).toNat = 4096 * q := by unfold adr; omega
    rw [e]
    rcases List.mem_cons.1 hq with rfl | hq
    · left; omega
    · refine Classical.byContradiction fun hno => ?_
      refine R.apart (List.mem_append_right _ (mem_blks.2 ⟨al.1, hq⟩)) cov_self ?_
      exact ⟨by simp only []; omega, by simp only []; omega⟩

structure WS (S : Nat → Prop) (c : Cfg) (x : BU) (F : Nat → List Nat) (L : List PBk) : Prop where
  rep : RepS S c x F L []
  e : x.m.n = x.st.n * 2 ^ x.m.o
  g : c.Good
abbrev WI := WS noS

structure Mv (x x' : BU) (L : List PBk) : Prop where
  k : Kept L x.st x'.st
  o : x'.m.o = x.m.o
  n : x'.m.n = x.m.n
  pk : PK L x.m x'.m

abbrev wsR (c : Cfg) (Q : WW) (x : BU) : Res := wdR c Q x.m.n x.st.n x

section
variable {w₀ : World} {h h' : Heap} {S : Nat → Prop} {c : Cfg} {Q : WW} {x : BU} {K : Value → Heap → Prop} {fl : Nat → List Nat} {L L' : List PBk} {p k : Nat}

theorem WS.ok (W : WS S c x fl L) : BU.Ok c x := W.rep.ok
theorem WS.perm (W : WS S c x fl L) (h : L.Perm L') : WS S c x fl L' := ⟨W.rep.permL h, W.e, W.g⟩

theorem ws_lift {x' : BU} (H : (wsR c Q x).P h) (M : Mv x x' L) (S : Stp h h' (buR c Q.W x) (buR c Q.W x')) : Stp h h' (wsR c Q x) (wsR c Q x') := by
  have := wd_lift' H M.o S
  unfold wsR
  rw [M.n, M.k.1]
  exact this

theorem WS.mv {x' : BU} {F' : Nat → List Nat} {L0 : List PBk} (W : WS S c x fl L) (G : Go' S c x x' F' L0 L') : WS S c x' F' L' ∧ Mv x x' L0 :=
  ⟨⟨G.r, by rw [G.n, G.k.1, G.o]; exact W.e, W.g⟩, ⟨G.k, G.o, G.n, G.pk⟩⟩

theorem takeW (W : WI c x fl L) (H : (wsR c Q x).P h) {o : Nat} (ho : o ≤ x.m.o)
    (h2 : (∀ j, o ≤ j → j ≤ x.m.o → fl j = []) → ∀ h', Stp h h' (wsR c Q x) (wsR c Q x) → K (.tuple #[.int .u64 0, .int .i64 2]) h')
    (h0 : ∀ j p l, o ≤ j → j ≤ x.m.o → fl j = p :: l → (∀ i, o ≤ i → i < j → fl i = []) → ∀ x' h', WI c x' (aCut p o (fset fl j l) (j - o)) ((p, o) :: L) → Mv x x' L → Stp h h' (wsR c Q x) (wsR c Q x') → K (.tuple #[.int .u64 (adr c p), .int .i64 0]) h') :
    CallV Tryz.prog w₀ F.buddy_Buddy_Take [.pointer (some ⟨Q.W.b, 0, none⟩), .int .i64 (o : Int)] h K := by
  refine bu_Take_ok W.ok (wd_bu H) fun h' ok' o' S => ?_
  rcases sim_take W.g ho W.rep with ⟨e, hF⟩ | ⟨j, p, l, j1, j2, hF, hi, e, G⟩
  · rw [e] at S ⊢
    exact h2 hF h' (wd_lift' H rfl S)
  · obtain ⟨W', M⟩ := W.mv G
    rw [e]
    exact h0 j p l j1 j2 hF hi _ h' W' M (ws_lift H M S)

theorem feedW (W : WI c x fl L) (H : (wsR c Q x).P h) (hn : 0 < x.st.n) (hL : L.Perm ((x.m.n - 2 ^ x.m.o, x.m.o) :: L'))
    (hK : ∀ x' h', WI c x' (aUp fl (x.m.n - 2 ^ x.m.o) x.m.o 0) L' → Mv x x' L' → Stp h h' (wsR c Q x) (wsR c Q x') → K (.int .i64 0) h') :
    CallV Tryz.prog w₀ F.buddy_Buddy_Feed [.pointer (some ⟨Q.W.b, 0, none⟩)] h K := by
  refine bu_Feed_ok W.ok (wd_bu H) fun h' ok' o' S => ?_
  obtain ⟨e, G⟩ := sim_feed W.g W.rep hn W.e hL id
  obtain ⟨W', M⟩ := W.mv G
  rw [e]
  exact hK _ h' W' M (ws_lift H M S)

theorem feedN (W : WI c x fl L) (H : (wsR c Q x).P h) (hL : ∀ b ∈ L, ¬ (b.1 = x.m.n - 2 ^ x.m.o ∧ b.2 = x.m.o)) (hK : ∀ h', Stp h h' (wsR c Q x) (wsR c Q x) → K (.int .i64 9) h') :
    CallV Tryz.prog w₀ F.buddy_Buddy_Feed [.pointer (some ⟨Q.W.b, 0, none⟩)] h K := by
  refine bu_Feed_ok W.ok (wd_bu H) fun h' ok' o' S => ?_
  have e := feed_no W.g W.rep fun b hb _ => hL b hb
  rw [e] at S ⊢
  exact hK h' (wd_lift' H rfl S)

theorem WS.nr (W : WS S c x fl L) : x.st.n ≤ 1024 := by
  have h1 := W.e
  have h2 := W.ok.m.n1
  have h5 : x.st.n * 1 ≤ x.st.n * 2 ^ x.m.o := Nat.mul_le_mul_left _ (Nat.one_le_two_pow)
  omega

theorem comeW (W : WI c x fl L) (H : (wsR c Q x).P h) (hl : (x.st.n : Int) < c.limit)
    (hK : ∀ x' h' (Q' : WW), Q'.wb = Q.wb → WI c x' fl ((x.m.n, x.m.o) :: L) → x'.m.o = x.m.o → x'.m.n = x.m.n + 2 ^ x.m.o → x'.st.n = x.st.n + 1 →
      (∀ b ∈ L, ∀ o, 4096 * b.1 ≤ o → o < 4096 * (b.1 + 2 ^ b.2) → x'.st.M o = x.st.M o) → Stp h h' (wsR c Q x) (wsR c Q' x') → K (.bool true) h') :
    CallV Tryz.prog w₀ F.croftlaw5_world_come [.pointer (some ⟨Q.wb, 0, none⟩)] h K := by
  refine come_ok W.ok W.e W.e hl H fun h' Q' eQ hroom S => ?_
  obtain ⟨R, eo, en, hM, _⟩ := sim_come W.g W.rep W.e hroom
  refine hK ⟨growS c x.st, x.hd, mGrow x.m⟩ h' Q' eQ ⟨R, ?_, W.g⟩ eo en rfl hM ?_
  · show (mGrow x.m).n = (x.st.n + 1) * 2 ^ (mGrow x.m).o
    rw [eo, en, Nat.succ_mul, ← W.e]
  · show Stp h h' _ (wdR c Q' (mGrow x.m).n (x.st.n + 1) _)
    rw [en]
    exact S

theorem bu_bop {W : BW} (H : (buR c W x).P h) : (bopR c W.s W.mb W.b W.lp (x.m.o + 1) W.lc W.lb x.hd).P h :=
  ⟨H.1.1, ⟨H.1.2.1, H.2.1.1.1, fun b e e' => H.2.2 b (.inr e) (.inl (.inl e'))⟩, fun b e e' => by
    rcases e' with e' | e'
    · exact H.1.2.2 b e e'
    · exact H.2.2 b (.inl e) (.inl (.inl e'))⟩

def hdL (c : Cfg) (fl : Nat → List Nat) (o : Nat) : List Int := (List.range (o + 1)).map fun k => ((fl k).map (adr c)).headD 0

theorem hdL_len (c : Cfg) (fl : Nat → List Nat) (o : Nat) : (hdL c fl o).length = o + 1 := by simp [hdL]

theorem headsW (W : WI c x fl L) (H : (wsR c Q x).P h) (hK : ∀ h' p cap, New h h' (slR p (hdL c fl x.m.o).length cap 1 (uL (hdL c fl x.m.o))) → K (.slice p (hdL c fl x.m.o).length (hdL c fl x.m.o).length) h') :
    CallV Tryz.prog w₀ F.buddy_Buddy_Heads [.pointer (some ⟨Q.W.b, 0, none⟩)] h K := by
  have o8 := W.ok.m.o8
  rw [hdL_len] at hK
  refine bu_Heads_ok (by omega) (bu_bop (wd_bu H)) fun h' p cap hc N => hK h' p cap (N.conv (fun A => sl_congr A fun i hi => ?_) fun _ e => e)
  have hi : i < x.m.o + 1 := by omega
  have e := (W.rep.ls i (by omega)).hd
  simp only [] at e
  show Value.int .u64 (x.hd i) = .int .u64 ((hdL c fl x.m.o).getD i 0)
  rw [e]
  unfold hdL
  rw [List.getD_eq_getElem?_getD, List.getElem?_map, List.getElem?_range hi]
  simp only [Option.map_some, Option.getD_some]

end
end Go.Proofs.YtnlcmfdmbgnpfaaGreat
