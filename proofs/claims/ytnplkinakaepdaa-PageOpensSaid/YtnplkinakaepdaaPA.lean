/- Chapter 4's laws: what a call does to a map; the first answers. No condition. -/
import Derived.Test.YtnplkinakaepdaaP9
set_option linter.unusedSimpArgs false
set_option linter.unusedVariables false
namespace Go.Proofs.Ytnplkinakaepdaa
open Go.V Classical

/-- A call. -/
structure PO where
  kind : Int
  page : Int
  x : Int
  y : Int
  live : Bool

abbrev pov (o : PO) : Value := .agg #[.int .i64 o.kind, .int .i64 o.page, .int .i64 o.x, .int .i64 o.y, .bool o.live]

def pof (o : PO) : Nat → Value
  | 0 => .int .i64 o.kind
  | 1 => .int .i64 o.page
  | 2 => .int .i64 o.x
  | 3 => .int .i64 o.y
  | _ => .bool o.live

def bd63 (x : Int) : Prop := -9223372036854775808 ≤ x ∧ x ≤ 9223372036854775807

structure PO.Ok (o : PO) : Prop where
  k : bd63 o.kind
  p : bd63 o.page
  x : bd63 o.x
  y : bd63 o.y

def shrinkOk (s : MS) (k : Int) : Prop := 0 ≤ k ∧ k ≤ (s.n / 2 ^ s.o : Nat)
def runOk (s : MS) (i r kind : Int) : Prop := (kind = 0 ∨ kind = 2) ∧ 0 ≤ r ∧ r ≤ s.o ∧ 0 ≤ i ∧ i.toNat % 2 ^ r.toNat = 0 ∧ i.toNat + 2 ^ r.toNat ≤ s.n
def slabOk (s : MS) (i c : Int) : Prop := 0 ≤ i ∧ i < s.n ∧ 0 ≤ c ∧ c ≤ 7
def ownOk (s : MS) (i c : Int) (live : Bool) : Prop := 0 ≤ i ∧ i < s.n ∧ s.pg i.toNat 0 = 4 ∧ 0 ≤ c ∧ c < ncells (s.pg i.toNat) ∧ pbit (s.pg i.toNat) c.toNat ≠ live
def chainOk (s : MS) (i p q : Int) : Prop := 0 ≤ i ∧ i < s.n ∧ s.pg i.toNat 0 = 4 ∧ -1 ≤ p ∧ p < s.n ∧ -1 ≤ q ∧ q < s.n
def firstOk (s : MS) (i c : Int) : Prop := 0 ≤ i ∧ i < s.n ∧ s.pg i.toNat 0 = 4 ∧ -1 ≤ c ∧ c < ncells (s.pg i.toNat)
def pairOk (s : MS) (r i : Int) : Prop := 0 ≤ i ∧ i < s.n ∧ 0 ≤ r ∧ r < s.o

def slabP (c : Int) : Nat → Int := fun j => if j = 2 then c else plainP 4 0 j
def chainP (P : Nat → Int) (p q : Int) : Nat → Int := fun j => if j = 4 then p else if j = 5 then q else P j
def firstP (P : Nat → Int) (c : Int) : Nat → Int := fun j => if j = 6 then c else P j

def setPg (s : MS) (i : Int) (Q : Nat → Int) : MS := { s with pg := putP s.pg i.toNat Q }

/-- What a call leaves, and whether it was OK. -/
noncomputable def mCall (s : MS) (o : PO) : MS × Bool :=
  if o.kind = 1 then (mGrow s, true)
  else if o.kind = 2 then if shrinkOk s o.x then (mShrink s o.x.toNat, true) else (s, false)
  else if o.kind = 3 then if runOk s o.page o.x o.y then ({ s with pg := runP s.pg o.page.toNat o.x.toNat o.y }, true) else (s, false)
  else if o.kind = 4 then if slabOk s o.page o.x then (setPg s o.page (slabP o.x), true) else (s, false)
  else if o.kind = 5 then if ownOk s o.page o.x o.live then (setPg s o.page (pown (s.pg o.page.toNat) o.x.toNat o.live), true) else (s, false)
  else if o.kind = 6 then if chainOk s o.page o.x o.y then (setPg s o.page (chainP (s.pg o.page.toNat) o.x o.y), true) else (s, false)
  else if o.kind = 7 then if firstOk s o.page o.x then (setPg s o.page (firstP (s.pg o.page.toNat) o.x), true) else (s, false)
  else if pairOk s o.x o.page then ({ s with bt := flipB s.bt o.x.toNat (o.page.toNat / 2 ^ (o.x.toNat + 1)) }, true) else (s, false)

theorem plainP_t {k r : Int} (hk : bd63 k) (hr : 0 ≤ r ∧ r ≤ 8) : PgT (plainP k r) := by
  refine ⟨fun j hj => ?_, fun j hj h7 => ?_, hr, by simp [plainP]⟩
  · have : j = 0 ∨ j = 1 ∨ j = 2 ∨ j = 3 ∨ j = 4 ∨ j = 5 ∨ j = 6 := by omega
    rcases this with rfl | rfl | rfl | rfl | rfl | rfl | rfl <;> simp only [plainP] <;> first | exact hk | omega
  · have : j = 7 ∨ j = 8 ∨ j = 9 ∨ j = 10 := by omega
    rcases this with rfl | rfl | rfl | rfl <;> simp [plainP]

theorem slabP_t {c : Int} (hc : 0 ≤ c ∧ c ≤ 7) : PgT (slabP c) := by
  have T := plainP_t (k := 4) (r := 0) (by unfold bd63; omega) (by omega)
  refine ⟨fun j hj => ?_, fun j hj h7 => ?_, by simp [slabP, plainP], by simp [slabP]; omega⟩
  · unfold slabP; split
    · omega
    · exact T.i j hj
  · unfold slabP; rw [if_neg (by omega)]; exact T.u j hj h7

theorem pown_t {P : Nat → Int} {c : Nat} {live : Bool} (hc : c < 256) (T : PgT P) : PgT (pown P c live) := by
  refine ⟨fun j hj => ?_, fun j hj h7 => ?_, ?_, ?_⟩
  · unfold pown
    split
    · cases live <;> (simp only [Bool.false_eq_true, if_false, if_true]; rw [IntKind.wrap_i64]; omega)
    · rw [if_neg (by omega)]; exact T.i j hj
  · unfold pown
    rw [if_neg (by omega)]
    split
    · have h1 := T.u (7 + c / 64) (by omega) (by omega)
      have h2 : (P (7 + c / 64)).toNat ^^^ 2 ^ (c % 64) < 2 ^ 64 := Nat.xor_lt_two_pow (by omega) (Nat.pow_lt_pow_right (by decide) (by omega))
      have h3 : (P (7 + c / 64)).toNat ^^^ 2 ^ (c % 64) < 18446744073709551616 := h2
      omega
    · exact T.u j hj h7
  · have : pown P c live 1 = P 1 := by unfold pown; rw [if_neg (by omega), if_neg (by omega)]
    rw [this]; exact T.o
  · have : pown P c live 2 = P 2 := by unfold pown; rw [if_neg (by omega), if_neg (by omega)]
    rw [this]; exact T.c

theorem chainP_t {P : Nat → Int} {p q : Int} (hp : bd63 p) (hq : bd63 q) (T : PgT P) : PgT (chainP P p q) := by
  refine ⟨fun j hj => ?_, fun j hj h7 => ?_, T.o, T.c⟩
  · unfold chainP; split
    · exact hp
    · split
      · exact hq
      · exact T.i j hj
  · unfold chainP; rw [if_neg (by omega), if_neg (by omega)]; exact T.u j hj h7

theorem firstP_t {P : Nat → Int} {c : Int} (hc : bd63 c) (T : PgT P) : PgT (firstP P c) := by
  refine ⟨fun j hj => ?_, fun j hj h7 => ?_, T.o, T.c⟩
  · unfold firstP; split
    · exact hc
    · exact T.i j hj
  · unfold firstP; rw [if_neg (by omega)]; exact T.u j hj h7

theorem setPg_ok {s : MS} {i : Int} {Q : Nat → Int} (H : s.Ok) (T : PgT Q) : (setPg s i Q).Ok := by
  refine ⟨H.o8, H.n1, H.al, H.bi, fun x hx => ?_⟩
  show PgT (putP s.pg i.toNat Q x)
  unfold putP
  split
  · exact T
  · exact H.pg x hx

theorem mGrow_ok {s : MS} (H : s.Ok) : (mGrow s).Ok := by
  unfold mGrow
  split
  · exact H
  · rename_i hle
    refine ⟨H.o8, by dsimp only; omega, ?_, fun k i hk hb => ?_, fun x hx => ?_⟩
    · dsimp only; rw [Nat.add_mod, H.al]; simp
    · have := H.bi k i hk hb
      exact Nat.lt_of_lt_of_le this (Nat.div_le_div_right (Nat.le_add_right _ _))
    · dsimp only
      split
      · exact H.pg x (by assumption)
      · refine plainP_t (by unfold bd63; split <;> omega) (by have := H.o8; omega)

theorem mShrink_ok {s : MS} {x : Nat} (H : s.Ok) (hx : x ≤ s.n / 2 ^ s.o) : (mShrink s x).Ok := by
  have h1 : x * 2 ^ s.o ≤ s.n := Nat.le_trans (Nat.mul_le_mul_right _ hx) (Nat.div_mul_le_self _ _)
  refine ⟨H.o8, Nat.le_trans (Nat.sub_le _ _) H.n1, ?_, fun k i hk hb => ?_, fun y hy => H.pg y (Nat.lt_of_lt_of_le hy (Nat.sub_le _ _))⟩
  · show (s.n - x * 2 ^ s.o) % 2 ^ s.o = 0
    obtain ⟨q, hq⟩ := Nat.dvd_of_mod_eq_zero H.al
    rw [hq, Nat.mul_comm x, ← Nat.mul_sub]
    exact Nat.mul_mod_right _ _
  · have hb : (decide (i < (s.n - x * 2 ^ s.o) / 2 ^ (k + 1)) && s.bt k i) = true := hb
    simp only [Bool.and_eq_true, decide_eq_true_eq] at hb
    exact hb.1

theorem runP_ok {s : MS} {i r kind : Int} (H : s.Ok) (hr : runOk s i r kind) : ({ s with pg := runP s.pg i.toNat r.toNat kind } : MS).Ok := by
  refine ⟨H.o8, H.n1, H.al, H.bi, fun x hx => ?_⟩
  show PgT (runP s.pg i.toNat r.toNat kind x)
  unfold runP
  split
  · refine plainP_t (by unfold bd63; have := hr.1; split <;> omega) (by have := H.o8; have := hr.2.1; have := hr.2.2.1; omega)
  · exact H.pg x hx

theorem flip_ok {s : MS} {r i : Int} (H : s.Ok) (hp : pairOk s r i) : ({ s with bt := flipB s.bt r.toNat (i.toNat / 2 ^ (r.toNat + 1)) } : MS).Ok := by
  refine ⟨H.o8, H.n1, H.al, fun a j ha hb => ?_, H.pg⟩
  have hb : flipB s.bt r.toNat (i.toNat / 2 ^ (r.toNat + 1)) a j = true := hb
  unfold flipB at hb
  by_cases h : a = r.toNat ∧ j = i.toNat / 2 ^ (r.toNat + 1)
  · rw [h.1, h.2]
    have h1 : 2 ^ (r.toNat + 1) ∣ s.n := Nat.dvd_trans (Nat.pow_dvd_pow 2 (by have := hp.2.2; omega)) (Nat.dvd_of_mod_eq_zero H.al)
    obtain ⟨q, hq⟩ := h1
    show _ < s.n / _
    rw [hq, Nat.mul_div_cancel_left _ (Nat.two_pow_pos _)]
    exact Nat.div_lt_of_lt_mul (by rw [← hq]; have := hp.1; have := hp.2.1; omega)
  · simp only [h, if_false] at hb
    exact H.bi a j ha hb

theorem ncells_le {P : Nat → Int} : ncells P ≤ 256 := Nat.div_le_self _ _

theorem mCall_ok {s : MS} {o : PO} (H : s.Ok) (ho : o.Ok) : (mCall s o).1.Ok := by
  unfold mCall
  split
  · exact mGrow_ok H
  split
  · split
    · rename_i h; exact mShrink_ok H (by have := h.1; have := h.2; omega)
    · exact H
  split
  · split
    · rename_i h; exact runP_ok H h
    · exact H
  split
  · split
    · rename_i h; exact setPg_ok H (slabP_t h.2.2)
    · exact H
  split
  · split
    · rename_i h; exact setPg_ok H (pown_t (by have := h.2.2.2.2.1; have := h.2.2.2.1; have := ncells_le (P := s.pg o.page.toNat); omega) (H.pg _ (by have := h.1; have := h.2.1; omega)))
    · exact H
  split
  · split
    · rename_i h; exact setPg_ok H (chainP_t ho.x ho.y (H.pg _ (by have := h.1; have := h.2.1; omega)))
    · exact H
  split
  · split
    · rename_i h; exact setPg_ok H (firstP_t ho.x (H.pg _ (by have := h.1; have := h.2.1; omega)))
    · exact H
  split
  · rename_i h; exact flip_ok H h
  · exact H

theorem mCall_o (s : MS) (o : PO) : (mCall s o).1.o = s.o := by
  unfold mCall mGrow mShrink setPg
  repeat' split
  all_goals rfl

section
variable {w₀ : World} {h : Heap} {mb : Nat} {w : MW} {s : MS} {K : Value → Heap → Prop} {o : PO}

theorem po_box (h : Heap) (o : PO) : New h (h.push (.cells #[.int .i64 o.kind, .int .i64 o.page, .int .i64 o.x, .int .i64 o.y, .bool o.live] T.T_croftlaw4_Op)) (blkR h.size 5 (pof o)) :=
  ⟨push_upd _ _ _, Blk.new' _ _ _ _ _ rfl fun j hj => by
    have : j = 0 ∨ j = 1 ∨ j = 2 ∨ j = 3 ∨ j = 4 := by omega
    rcases this with rfl | rfl | rfl | rfl | rfl <;> rfl, fun b e => Nat.le_of_eq (Eq.symm e)⟩

theorem ofNat_toNat {i : Int} (h : 0 ≤ i) : ((i.toNat : Nat) : Int) = i := by omega

theorem call_ok (ho : o.Ok) (hs : s.Ok) (H : (mapR mb s w).P h) (hK : ∀ (h' : Heap) (w' : MW), Stp h h' (mapR mb s w) (mapR mb (mCall s o).1 w') → K (.bool (mCall s o).2) h') :
    CallV Try.prog w₀ F.croftlaw4_call [.pointer (some ⟨mb, 0, none⟩), pov o] h K := by
  refine croftlaw4_call.call ?_
  unfold croftlaw4_call.vc
  have A := po_box h o
  have c : ∀ j, j < 5 → cellAt _ ⟨h.size, j, none⟩ = some (pof o j) := fun j hj => Blk.cell A.p hj
  have H1 := (mapR mb s w).st H A.u fun _ _ => id
  have Q := Stp.quiet H A.u
  simp only [add_mk, Nat.zero_add]
  have fin : ∀ (h' : Heap) (w' : MW) (s' : MS) (b : Bool), mCall s o = (s', b) → Stp _ h' (mapR mb s w) (mapR mb s' w') → K (.bool b) h' := fun h' w' s' b e S => by
    have := hK h' w'
    rw [e] at this
    exact this (Q.trans S)
  have no : ∀ (h' : Heap) (b : Bool), mCall s o = (s, b) → Upd NoB _ h' → K (.bool b) h' := fun h' b e u => fin h' w s b e (Stp.quiet H1 u)
  refine ⟨_, c 0 (by omega), fun e1 => ?_, fun e1 => ⟨_, c 0 (by omega), fun e2 => ?_, fun e2 => ⟨_, c 0 (by omega), fun e3 => ?_, fun e3 => ⟨_, c 0 (by omega), fun e4 => ?_, fun e4 => ⟨_, c 0 (by omega), fun e5 => ?_, fun e5 => ⟨_, c 0 (by omega), fun e6 => ?_, fun e6 => ⟨_, c 0 (by omega), fun e7 => ?_, fun e7 => ?_⟩⟩⟩⟩⟩⟩⟩ <;> simp only [beq_iff_eq, beq_eq_false_iff_ne, ne_eq] at *
  · exact pm_Grow_ok hs H1 fun h' w' S => ⟨rfl, fin h' w' _ true (by simp [mCall, e1]) S⟩
  · refine ⟨_, c 2 (by omega), pm_Shrink_ok hs ho.x H1 (fun x hx hle h' w' S => ⟨_, rfl, fin h' w' _ true ?_ S⟩) fun hn => ⟨_, rfl, no _ false ?_ (Upd.refl _ _)⟩⟩
    · have : shrinkOk s o.x := ⟨by omega, by rw [hx]; omega⟩
      simp [mCall, e1, e2, this]; simp [hx]
    · have : ¬ shrinkOk s o.x := hn
      simp [mCall, e1, e2, this]
  · refine ⟨_, c 1 (by omega), _, c 2 (by omega), _, c 3 (by omega), pm_Run_ok hs.o8 hs.n1 ho.p H1 (fun m r' hm hr hle ha hmn hk h' S => ⟨_, rfl, fin h' w { s with pg := runP s.pg m r' o.y } true ?_ S⟩) fun hn h' u => ⟨_, rfl, no _ false ?_ u⟩⟩
    · have : runOk s o.page o.x o.y := ⟨hk, by omega, by omega, by omega, by rw [hm, hr]; exact ha, by rw [hm, hr]; exact hmn⟩
      simp [mCall, e1, e2, e3, this]; simp [hm, hr]
    · have : ¬ runOk s o.page o.x o.y := hn
      simp [mCall, e1, e2, e3, this]
  · refine ⟨_, c 1 (by omega), _, c 2 (by omega), pm_Slab_ok H1 (fun m hm hmn h0 h7 h' S => ⟨_, rfl, fin h' w (setPg s m (slabP o.x)) true ?_ S⟩) fun hn h' u => ⟨_, rfl, no _ false ?_ u⟩⟩
    · have : slabOk s o.page o.x := ⟨by omega, by omega, h0, h7⟩
      simp [mCall, e1, e2, e3, e4, this]; simp [hm]
    · have : ¬ slabOk s o.page o.x := hn
      simp [mCall, e1, e2, e3, e4, this]
  · refine ⟨_, c 1 (by omega), _, c 2 (by omega), _, c 4 (by omega), pm_Own_ok hs.pg H1 (fun m k hm hmn h4 hk hkc hb h' S => ⟨_, rfl, fin h' w (setPg s m (pown (s.pg m) k o.live)) true ?_ S⟩) fun hn h' u => ⟨_, rfl, no _ false ?_ u⟩⟩
    · have : ownOk s o.page o.x o.live := by
        refine ⟨by omega, by omega, ?_, by omega, ?_, ?_⟩ <;> rw [hm] <;> (try rw [hk]) <;> simp only [Int.toNat_natCast]
        · exact h4
        · omega
        · exact hb
      simp [mCall, e1, e2, e3, e4, e5, this]; simp [hm, hk]
    · have : ¬ ownOk s o.page o.x o.live := hn
      simp [mCall, e1, e2, e3, e4, e5, this]
  · refine ⟨_, c 1 (by omega), _, c 2 (by omega), _, c 3 (by omega), pm_Chain_ok hs.n1 H1 (fun m hm hmn h4 a1 a2 a3 a4 h' S => ⟨_, rfl, fin h' w (setPg s m (chainP (s.pg m) o.x o.y)) true ?_ S⟩) fun hn h' u => ⟨_, rfl, no _ false ?_ u⟩⟩
    · have : chainOk s o.page o.x o.y := by
        refine ⟨by omega, by omega, ?_, a1, a2, a3, a4⟩; rw [hm]; simp only [Int.toNat_natCast]; exact h4
      simp [mCall, e1, e2, e3, e4, e5, e6, this]; simp [hm]
    · have : ¬ chainOk s o.page o.x o.y := hn
      simp [mCall, e1, e2, e3, e4, e5, e6, this]
  · refine ⟨_, c 1 (by omega), _, c 2 (by omega), pm_First_ok hs.pg H1 (fun m hm hmn h4 a1 a2 h' S => ⟨_, rfl, fin h' w (setPg s m (firstP (s.pg m) o.x)) true ?_ S⟩) fun hn h' u => ⟨_, rfl, no _ false ?_ u⟩⟩
    · have : firstOk s o.page o.x := by
        refine ⟨by omega, by omega, ?_, a1, ?_⟩ <;> rw [hm] <;> simp only [Int.toNat_natCast]
        · exact h4
        · exact a2
      simp [mCall, e1, e2, e3, e4, e5, e6, e7, this]; simp [hm]
    · have : ¬ firstOk s o.page o.x := hn
      simp [mCall, e1, e2, e3, e4, e5, e6, e7, this]
  · refine ⟨_, c 2 (by omega), _, c 1 (by omega), pm_Flip_ok hs H1 (fun k m hk hko hm hmn h' S => ⟨_, _, rfl, fin h' w _ true ?_ S⟩) fun hn h' u => ⟨_, _, rfl, no _ false ?_ u⟩⟩
    · have : pairOk s o.x o.page := ⟨by omega, by omega, by omega, by omega⟩
      simp [mCall, e1, e2, e3, e4, e5, e6, e7, this]; simp [hm, hk]
    · have : ¬ pairOk s o.x o.page := hn
      simp [mCall, e1, e2, e3, e4, e5, e6, e7, this]

theorem pg_awake_ok (hK : ∀ h', Upd NoB h h' → K (.bool true) h') : CallV Try.prog w₀ F.croftlaw4_awake [] h K := by
  refine croftlaw4_awake.call ?_
  unfold croftlaw4_awake.vc
  refine pm_New_ok fun h6 mb w N6 => ⟨_, rfl, ?_⟩
  have hO : OpenOk 0 0 (fun _ _ => 0) 0 (fun _ => 0) := ⟨by omega, by omega, by omega, by simp, rfl, fun k hk => absurd hk (by omega), fun i hi => absurd hi (by omega)⟩
  refine pm_Open_ok (n := 0) (m := 0) (pg := fun _ _ => 0) (wp := fun _ => none) (wn := fun _ => 0) (wc := fun _ => 0) (ws := fun _ _ => 0) (by omega) (by omega) (.inl rfl) ⟨.inl rfl, fun k hk => absurd hk (by omega), fun k j hk => absurd hk (by omega)⟩ (fun _ h8 mb2 w2 N8 => ⟨_, _, rfl, ?_⟩) fun hn => absurd hO hn
  have I := ((Hold.nil h).new N6).new N8
  have ok0 := mNew_ok 2
  intro J3 k3
  refine pF rfl (k3 _ _ ?_)
  intro J4 k4
  refine pF rfl (k4 _ _ ⟨fun e => (by cases e), fun _ => ?_⟩)
  refine pm_Grow_ok ok0 (I.at 1) fun h22 w' S22 => ⟨rfl, ?_⟩
  have I2 := I.step 1 S22
  have e4 : mGrow (mNew 2) = { o := 2, n := 4, pg := fun x => if x < 0 then fun _ => 0 else plainP (if x = 0 then 2 else 3) 2, bt := fun _ _ => false } := by
    unfold mGrow mNew clampO
    simp
  rw [e4] at I2
  refine pm_At_ok (I2.at 1) (fun m hm hmn h25 u25 => ⟨_, _, _, _, _, _, _, _, _, _, _, _, rfl, ?_⟩) fun hh => absurd (by dsimp only; omega) hh
  have : m = 0 := by omega
  subst this
  obtain ⟨w1, u26, H26, hc⟩ := box_page (P := plainP 2 2) ((I2.quiet u25).at 1)
  refine ⟨w1, ?_⟩
  refine pm_Pages_ok H26 ⟨_, rfl, ?_⟩
  simp only [add_mk, Nat.zero_add]
  intro J10 k10
  refine qT rfl (k10 _ _ ?_)
  intro J11 k11
  refine qT rfl ⟨_, hc 0 (by omega), k11 _ _ ?_⟩
  intro J12 k12
  refine qT rfl ⟨_, hc 1 (by omega), k12 _ _ ?_⟩
  intro J13 k13
  exact qT rfl ⟨_, hc 4 (by omega), k13 _ _ (hK _ ((I2.quiet u25).quiet u26).u)⟩

end
end Go.Proofs.Ytnplkinakaepdaa
