/- croftlaw7: the book in the heap: meets, covered, noFit, without. No condition. -/
import Derived.Test.YteemmpkhdllapaaDoorZEE
set_option linter.unusedSimpArgs false
set_option linter.unusedVariables false
namespace Go.Proofs.YteemmpkhdllapaaDoor
open Go.V Classical

def ce0 : CE := ⟨0, 0, 0⟩
def ceC (b0 : Int) (e : CE) (j : Nat) : Value := if j = 0 then .int .u64 (b0 + (e.a : Int)) else if j = 1 then .int .u64 (e.n : Int) else .int .u8 e.m
def ceV (b0 : Int) (l : List CE) : Nat → Value := fun i => ceC b0 (l.getD (i / 3) ce0) (i % 3)
def ceL (b0 : Int) (e : CE) : List Value := [.int .u64 (b0 + (e.a : Int)), .int .u64 (e.n : Int), .int .u8 e.m]
def ceR (b0 : Int) (l : List CE) : List Value := (List.range (l.length * 3)).map (ceV b0 l)
abbrev bkR (p : Option Addr) (cap : Nat) (b0 : Int) (l : List CE) : Res := slR p l.length cap 3 (ceV b0 l)

theorem ceV_at (b0 : Int) (l : List CE) (i : Nat) : ceV b0 l (i * 3) = .int .u64 (b0 + ((l.getD i ce0).a : Int)) ∧ ceV b0 l (i * 3 + 1) = .int .u64 ((l.getD i ce0).n : Int) ∧ ceV b0 l (i * 3 + 2) = .int .u8 (l.getD i ce0).m := by
  unfold ceV
  rw [show i * 3 / 3 = i by omega, show (i * 3 + 1) / 3 = i by omega, show (i * 3 + 2) / 3 = i by omega, show i * 3 % 3 = 0 by omega, show (i * 3 + 1) % 3 = 1 by omega, show (i * 3 + 2) % 3 = 2 by omega]
  exact ⟨rfl, rfl, rfl⟩

theorem ceC_L (b0 : Int) (b : CE) {j : Nat} (hj : j < 3) : (ceL b0 b).getD j undef = ceC b0 b j := by
  have : j = 0 ∨ j = 1 ∨ j = 2 := by omega
  rcases this with rfl | rfl | rfl <;> rfl

theorem ceV_snoc (b0 : Int) (l : List CE) (e : CE) {i : Nat} (hi : i < (l.length + 1) * 3) : (if i < l.length * 3 then ceV b0 l i else (ceL b0 e).getD (i - l.length * 3) undef) = ceV b0 (l ++ [e]) i := by
  unfold ceV
  split
  · rename_i h
    rw [List.getD_eq_getElem?_getD, List.getD_eq_getElem?_getD, List.getElem?_append_left (by omega)]
  · rename_i h
    have h1 : i / 3 = l.length := by omega
    have h2 : (l ++ [e]).getD l.length ce0 = e := by simp
    rw [h1, h2, ceC_L _ _ (by omega)]
    congr 1
    omega

theorem ceR_len (b0 : Int) (l : List CE) : (ceR b0 l).length = l.length * 3 := by simp [ceR]
theorem ceR_get (b0 : Int) (l : List CE) {j : Nat} (hj : j < l.length * 3) : (ceR b0 l)[j]? = some (ceV b0 l j) := by
  unfold ceR
  rw [List.getElem?_map, List.getElem?_range hj]; rfl

structure BdE (b0 : Int) (l : List CE) : Prop where
  b : 0 ≤ b0 ∧ b0 ≤ 9223372036854775808
  e : ∀ e ∈ l, e.a ≤ 8388608 ∧ e.n ≤ 8388608
  l : l.length ≤ 1073741824

section
variable {w₀ : World} {h : Heap} {K : Value → Heap → Prop} {b0 : Int} {l : List CE} {sp : Option Addr} {cap : Nat}

theorem ceD_mem {i : Nat} (hi : i < l.length) : l.getD i ce0 ∈ l := by
  rw [List.getD_eq_getElem?_getD, List.getElem?_eq_getElem hi]; exact List.getElem_mem hi

theorem row_ce {hx : Heap} (R : Row hx sp (l.length * 3) (ceV b0 l)) {i : Nat} (hi : i < l.length) : ∃ a, sp = some a ∧ cellAt hx (a.add (Int.toNat (i : Int) * 3)) = some (.int .u64 (b0 + ((l.getD i ce0).a : Int))) ∧
    cellAt hx ((a.add (Int.toNat (i : Int) * 3)).add 1) = some (.int .u64 ((l.getD i ce0).n : Int)) ∧ cellAt hx ((a.add (Int.toNat (i : Int) * 3)).add 2) = some (.int .u8 (l.getD i ce0).m) := by
  obtain ⟨v0, v1, v2⟩ := ceV_at b0 l i
  rcases R with e | ⟨b, off, rfl, R⟩
  · omega
  · refine ⟨_, rfl, ?_, ?_, ?_⟩
    · rw [add_mk, Int.toNat_natCast, R (i * 3) (by omega), v0]
    · rw [add_mk, add_mk, Int.toNat_natCast, Nat.add_assoc, R (i * 3 + 1) (by omega), v1]
    · rw [add_mk, add_mk, Int.toNat_natCast, Nat.add_assoc, R (i * 3 + 2) (by omega), v2]

theorem rowAt_ce (R : Row h sp (l.length * 3) (ceV b0 l)) : Go.V.rowAt h sp (ceR b0 l) := by
  rcases R with e | ⟨b, off, rfl, R⟩
  · have el : ceR b0 l = [] := List.eq_nil_of_length_eq_zero (by rw [ceR_len]; exact e)
    rw [el]
    cases sp with
    | none => rfl
    | some a => intro j v hj; cases hj
  · intro j v hj
    have hl : j < l.length * 3 := by rw [← ceR_len b0]; exact (List.getElem?_eq_some_iff.1 hj).1
    rw [ceR_get _ _ hl] at hj
    show cellAt h ((⟨b, off, none⟩ : Addr).add j) = some v
    rw [add_mk, R j hl, hj]

theorem add7_ok {n c : Nat} {p q : Option Addr} {b : CE} (hn : n = l.length) (hl : l.length ≤ 1073741824) (H : (slR p l.length c 3 (ceV b0 l)).P h) (hr : Go.V.rowAt h q (ceL b0 b)) :
    ∃ os, AppPre h p n c q 1 3 24 os (ceL b0 b) ∧ ∀ (p' : Option Addr) (c' : Nat) (h' : Heap), AppRes h p n c 1 [.int .u64 0, .int .u64 0, .int .u8 0] T.T_croftlaw7_block os (ceL b0 b) p' c' h' →
      Stp h h' (slR p l.length c 3 (ceV b0 l)) (slR p' (l.length + 1) c' 3 (ceV b0 (l ++ [b]))) := by
  subst hn
  obtain ⟨os, h1, h2⟩ := sl_app (zs := [.int .u64 0, .int .u64 0, .int .u8 0]) (e := T.T_croftlaw7_block) (b := 24) (m := 1) (xs := ceL b0 b) H (by decide) rfl hr (by simp [oneC, ceL]) (by omega)
  exact ⟨os, h1, fun p' c' h' hres => (h2 p' c' h' hres).conv (fun P => sl_congr P fun j hj => ceV_snoc b0 l b hj) fun _ e => e⟩

theorem copy7_ok {c : Nat} {p : Option Addr} {f : Nat → Value} (hl : l.length ≤ 1073741824) (H : (slR p 0 c 3 f).P h) (R : Row h sp (l.length * 3) (ceV b0 l)) :
    ∃ os, AppPre h p 0 c sp l.length 3 24 os (ceR b0 l) ∧ ∀ (p' : Option Addr) (c' : Nat) (h' : Heap), AppRes h p 0 c l.length [.int .u64 0, .int .u64 0, .int .u8 0] T.T_croftlaw7_block os (ceR b0 l) p' c' h' →
      Stp h h' (slR p 0 c 3 f) (slR p' l.length c' 3 (ceV b0 l)) := by
  obtain ⟨os, h1, h2⟩ := sl_app (zs := [.int .u64 0, .int .u64 0, .int .u8 0]) (e := T.T_croftlaw7_block) (b := 24) (m := l.length) (xs := ceR b0 l) H (by decide) (by rw [ceR_len]; rfl) (rowAt_ce R) (fun v hv => by
    unfold ceR at hv
    obtain ⟨i, _, rfl⟩ := List.mem_map.1 hv
    unfold ceV ceC
    split
    · rfl
    · split <;> rfl) (by omega)
  refine ⟨os, h1, fun p' c' h' hres => (h2 p' c' h' hres).conv (fun P => ?_) fun _ e => e⟩
  have P : (slR p' (0 + l.length) c' 3 fun i => if i < 0 * 3 then f i else (ceR b0 l).getD (i - 0 * 3) undef).P h' := P
  rw [Nat.zero_add] at P
  refine sl_congr P fun j hj => ?_
  show (if j < 0 * 3 then f j else (ceR b0 l).getD (j - 0 * 3) undef) = ceV b0 l j
  rw [if_neg (by omega), Nat.zero_mul, Nat.sub_zero, List.getD_eq_getElem?_getD, ceR_get _ _ hj]; rfl

theorem row_l3 {bx : Nat} {b : CE} (B : (lR bx (ceL b0 b)).P h) : Go.V.rowAt h (some ⟨bx, 0, none⟩) (ceL b0 b) := by
  intro j v hj
  show cellAt h ((⟨bx, 0, none⟩ : Addr).add j) = some v
  exact cell_l B j hj

theorem meets7_ok {a n : Nat} (D : BdE b0 l) (R : Row h sp (l.length * 3) (ceV b0 l)) (ha : a ≤ 8388608) (hn : n ≤ 8388608) (hK : K (.bool (meetsE l a n)) h) :
    CallV Tryd.prog w₀ F.croftlaw7_meets [.slice sp l.length cap, .int .u64 (b0 + (a : Int)), .int .u64 (n : Int)] h K := by
  refine croftlaw7_meets.call ?_
  unfold croftlaw7_meets.vc
  intro J1 hJ1 L2 hL2
  have hb := D.b
  have hl := D.l
  have loop : ∀ (d i : Nat), i + d = l.length → (∀ j, j < i → ¬ ((l.getD j ce0).a < a + n ∧ a < (l.getD j ce0).a + (l.getD j ce0).n)) → L2 [.slice sp l.length cap, .int .u64 (b0 + (a : Int)), .int .u64 (n : Int), .int .i64 (i : Int)] h := by
    intro d
    induction d with
    | zero =>
      intro i hi hno
      refine hL2 _ _ _ _ _ _ _ (iF (decide_eq_false (by omega)) (hJ1 _ ?_))
      have e : meetsE l a n = false := by
        unfold meetsE
        rw [List.any_eq_false]
        intro b hbl
        obtain ⟨j, hj, rfl⟩ := List.mem_iff_getElem.1 hbl
        have := hno j (by omega)
        rw [List.getD_eq_getElem?_getD, List.getElem?_eq_getElem hj] at this
        simpa using this
      rw [e] at hK; exact hK
    | succ d ih =>
      intro i hi hno
      obtain ⟨ad, e1, r1, r2, r3⟩ := row_ce R (i := i) (by omega)
      have hbi := D.e _ (ceD_mem (l := l) (i := i) (by omega))
      have es : IntKind.wrap .u64 (b0 + (a : Int) + (n : Int)) = b0 + ((a + n : Nat) : Int) := by rw [wU (by unfold U64; omega)]; omega
      have es' : IntKind.wrap .u64 (b0 + ((l.getD i ce0).a : Int) + ((l.getD i ce0).n : Int)) = b0 + (((l.getD i ce0).a + (l.getD i ce0).n : Nat) : Int) := by rw [wU (by unfold U64; omega)]; omega
      have hnext : ¬ ((l.getD i ce0).a < a + n ∧ a < (l.getD i ce0).a + (l.getD i ce0).n) → L2 [.slice sp l.length cap, .int .u64 (b0 + (a : Int)), .int .u64 (n : Int), .int .i64 (IntKind.wrap .i64 ((i : Int) + 1))] h := fun hn => by
        rw [show IntKind.wrap .i64 ((i : Int) + 1) = ((i + 1 : Nat) : Int) by rw [IntKind.wrap_i64]; omega]
        refine ih (i + 1) (by omega) fun j hj => ?_
        rcases Nat.lt_or_ge j i with h1 | h1
        · exact hno j h1
        · have : j = i := by omega
          subst this; exact hn
      refine hL2 _ _ _ _ _ _ _ (iT (decide_eq_true (by omega)) ⟨ad, e1, by omega, by omega, _, r1, fun J3 hJ3 => ?_⟩)
      rw [es]
      by_cases c1 : (l.getD i ce0).a < a + n
      · refine qT (decide_eq_true (by omega)) ⟨ad, e1, by omega, by omega, _, r1, ad, e1, by omega, by omega, _, r2, hJ3 _ _ ?_⟩
        rw [es']
        by_cases c2 : a < (l.getD i ce0).a + (l.getD i ce0).n
        · refine iT (decide_eq_true (by omega)) ?_
          have e : meetsE l a n = true := by
            unfold meetsE
            rw [List.any_eq_true]
            refine ⟨l.getD i ce0, ceD_mem (by omega), ?_⟩
            rw [decide_eq_true c1, decide_eq_true c2]; rfl
          rw [e] at hK; exact hK
        · exact iF (decide_eq_false (by omega)) (hnext fun hc => c2 hc.2)
      · exact qF' (decide_eq_false (by omega)) (hJ3 _ _ (iF rfl (hnext fun hc => c1 hc.1)))
  exact loop l.length 0 (by omega) fun j hj => by omega

theorem covered_ok {a n : Nat} (D : BdE b0 l) (hl2 : l.length ≤ 1048576) (R : Row h sp (l.length * 3) (ceV b0 l)) (ha : a ≤ 8388608) (hn : n ≤ 8388608) (hK : K (.int .u64 ((cntE l a n * n : Nat) : Int)) h) :
    CallV Tryd.prog w₀ F.croftlaw7_covered [.slice sp l.length cap, .int .u64 (b0 + (a : Int)), .int .u64 (n : Int)] h K := by
  refine croftlaw7_covered.call ?_
  unfold croftlaw7_covered.vc
  intro J1 hJ1 L2 hL2
  have hb := D.b
  have es : IntKind.wrap .u64 (b0 + (a : Int) + 4096) = b0 + ((a + 4096 : Nat) : Int) := by rw [wU (by unfold U64; omega)]; omega
  have loop : ∀ (d i : Nat), i + d = l.length → L2 [.slice sp l.length cap, .int .u64 (b0 + (a : Int)), .int .u64 (n : Int), .int .u64 ((cntE (l.take i) a n * n : Nat) : Int), .int .i64 (i : Int)] h := by
    intro d
    induction d with
    | zero =>
      intro i hi
      have hi : i = l.length := by omega
      subst hi
      rw [List.take_length]
      exact hL2 _ _ _ _ _ _ _ _ (iF (decide_eq_false (by omega)) (hJ1 _ _ hK))
    | succ d ih =>
      intro i hi
      obtain ⟨ad, e1, r1, r2, r3⟩ := row_ce R (i := i) (by omega)
      have hbi := D.e _ (ceD_mem (l := l) (i := i) (by omega))
      have htk : l.take (i + 1) = l.take i ++ [l.getD i ce0] := by
        rw [List.take_add_one, List.getD_eq_getElem?_getD, List.getElem?_eq_getElem (by omega)]; rfl
      have hcnt : cntE (l.take (i + 1)) a n = cntE (l.take i) a n + if (l.getD i ce0).n = n ∧ a ≤ (l.getD i ce0).a ∧ (l.getD i ce0).a < a + 4096 then 1 else 0 := by
        unfold cntE
        rw [htk, List.countP_append]
        congr 1
        simp only [List.countP_cons, List.countP_nil, Nat.zero_add]
        by_cases hc : (l.getD i ce0).n = n ∧ a ≤ (l.getD i ce0).a ∧ (l.getD i ce0).a < a + 4096
        · rw [if_pos hc, if_pos (by simp only [Bool.and_eq_true, decide_eq_true_eq]; exact hc)]
        · rw [if_neg hc, if_neg (by simp only [Bool.and_eq_true, decide_eq_true_eq]; exact hc)]
      have hle : cntE (l.take (i + 1)) a n ≤ 1048576 := by
        unfold cntE
        have := List.countP_le_length (p := fun e : CE => decide (e.n = n) && (decide (a ≤ e.a) && decide (e.a < a + 4096))) (l := l.take (i + 1))
        simp at this
        omega
      have hle2 : cntE (l.take (i + 1)) a n * n ≤ 1048576 * 8388608 := Nat.mul_le_mul hle hn
      have nx : ∀ v : Int, v = ((cntE (l.take (i + 1)) a n * n : Nat) : Int) → L2 [.slice sp l.length cap, .int .u64 (b0 + (a : Int)), .int .u64 (n : Int), .int .u64 v, .int .i64 (IntKind.wrap .i64 ((i : Int) + 1))] h := fun v hv => by
        rw [show IntKind.wrap .i64 ((i : Int) + 1) = ((i + 1 : Nat) : Int) by rw [IntKind.wrap_i64]; omega, hv]
        exact ih (i + 1) (by omega)
      refine hL2 _ _ _ _ _ _ _ _ (iT (decide_eq_true (by omega)) fun J3 hJ3 => ⟨ad, e1, by omega, by omega, _, r2, fun J4 hJ4 => ?_⟩)
      have no : ¬ ((l.getD i ce0).n = n ∧ a ≤ (l.getD i ce0).a ∧ (l.getD i ce0).a < a + 4096) → J3 [.slice sp l.length cap, .int .u64 (b0 + (a : Int)), .int .u64 (n : Int), .int .u64 ((cntE (l.take i) a n * n : Nat) : Int), .int .i64 (i : Int)] h := fun hc =>
        hJ3 _ _ _ _ _ _ _ _ (nx _ (by rw [hcnt, if_neg hc, Nat.add_zero]))
      by_cases c1 : (l.getD i ce0).n = n
      · refine qT (by rw [beq_iff_eq]; omega) ⟨ad, e1, by omega, by omega, _, r1, hJ4 _ _ fun J5 hJ5 => ?_⟩
        by_cases c2 : a ≤ (l.getD i ce0).a
        · refine qT (decide_eq_true (by omega)) ⟨ad, e1, by omega, by omega, _, r1, hJ5 _ _ ?_⟩
          rw [es]
          by_cases c3 : (l.getD i ce0).a < a + 4096
          · refine iT (decide_eq_true (by omega)) (hJ3 _ _ _ _ _ _ _ _ (nx _ ?_))
            have e2 : cntE (l.take (i + 1)) a n * n = cntE (l.take i) a n * n + n := by rw [hcnt, if_pos ⟨c1, c2, c3⟩, Nat.succ_mul]
            rw [wU (by unfold U64; omega), e2]
            omega
          · exact iF (decide_eq_false (by omega)) (no fun h => c3 h.2.2)
        · exact qF' (decide_eq_false (by omega)) (hJ5 _ _ (iF rfl (no fun h => c2 h.2.1)))
      · exact qF' (beq_eq_false_iff_ne.2 (by omega)) (hJ4 _ _ fun J5 hJ5 => qF' rfl (hJ5 _ _ (iF rfl (no fun h => c1 h.1))))
  have := loop l.length 0 (by omega)
  rw [show cntE (l.take 0) a n = 0 from rfl, Nat.zero_mul] at this
  exact this

theorem erase_ce (l : List CE) (i j : Nat) (hj : j < l.length) : (l.take (j + 1)).eraseIdx i = if j = i then (l.take j).eraseIdx i else (l.take j).eraseIdx i ++ [l.getD j ce0] := by
  have htk : l.take (j + 1) = l.take j ++ [l.getD j ce0] := by
    rw [List.take_add_one, List.getD_eq_getElem?_getD, List.getElem?_eq_getElem (by omega)]; rfl
  have hlen : (l.take j).length = j := by simp; omega
  split
  · rename_i e
    subst e
    rw [htk, List.eraseIdx_append_of_length_le (by omega), List.eraseIdx_of_length_le (by omega : (l.take j).length ≤ j), hlen, Nat.sub_self]
    simp
  · rename_i e
    rcases Nat.lt_or_ge i j with h1 | h1
    · rw [htk, List.eraseIdx_append_of_lt_length (by omega)]
    · rw [List.eraseIdx_of_length_le (by simp; omega), List.eraseIdx_of_length_le (by omega), htk]

theorem without7_ok {i : Nat} (hl : l.length ≤ 1073741824) (R : Row h sp (l.length * 3) (ceV b0 l))
    (hK : ∀ h' p c, New h h' (bkR p c b0 (l.eraseIdx i)) → K (.slice p (l.eraseIdx i).length c) h') :
    CallV Tryd.prog w₀ F.croftlaw7_without [.slice sp l.length cap, .int .i64 (i : Int)] h K := by
  refine croftlaw7_without.call ?_
  unfold croftlaw7_without.vc
  intro J1 hJ1 L2 hL2
  have I0 : Hold h h [slR none ((l.take 0).eraseIdx i).length 0 3 (ceV b0 ((l.take 0).eraseIdx i))] :=
    (Hold.nil h).new ⟨Upd.refl _ _, by simpa using sl_nil _ _ _, fun b e => absurd e (sl_nil_fp b)⟩
  have key : ∀ (d j : Nat) (y : Option Addr) (cp : Nat) (hx : Heap), j + d = l.length → Hold h hx [slR y ((l.take j).eraseIdx i).length cp 3 (ceV b0 ((l.take j).eraseIdx i))] →
      L2 [.slice sp l.length cap, .int .i64 (i : Int), .slice y ((l.take j).eraseIdx i).length cp, .int .i64 (j : Int)] hx := by
    intro d
    induction d with
    | zero =>
      intro j y cp hx hj I
      have hj : j = l.length := by omega
      subst hj
      rw [List.take_length] at I ⊢
      exact hL2 _ _ _ _ _ _ _ _ _ (iF (decide_eq_false (by omega)) (hJ1 _ _ _ _ (hK hx y cp I.toNew)))
    | succ d ih =>
      intro j y cp hx hj I
      obtain ⟨a, e1, r1, r2, r3⟩ := row_ce (R.upd I.u fun _ _ => id) (i := j) (by omega)
      have es := erase_ce l i j (by omega)
      have hwr : IntKind.wrap .i64 ((j : Int) + 1) = ((j + 1 : Nat) : Int) := by rw [IntKind.wrap_i64]; omega
      refine hL2 _ _ _ _ _ _ _ _ _ (iT (decide_eq_true (by omega)) fun J3 hJ3 => ?_)
      by_cases hne : j = i
      · rw [if_pos hne] at es
        refine iF (eq_b (by omega)) (hJ3 _ _ _ _ _ _ _ _ _ ?_)
        rw [hwr]
        have := ih (j + 1) y cp hx (by omega) (by rw [es]; exact I)
        rw [es] at this
        exact this
      · rw [if_neg hne] at es
        refine iT (ne_b (by omega)) ⟨a, e1, by omega, by omega, _, r1, _, r2, _, r3, ?_⟩
        have hfl : ((l.take j).eraseIdx i).length ≤ l.length := Nat.le_trans (List.length_eraseIdx_le _ _) (by simp; omega)
        have N7 := box_l hx [.int .u64 (b0 + ((l.getD j ce0).a : Int)), .int .u64 ((l.getD j ce0).n : Int), .int .u8 (l.getD j ce0).m] T.T_croftlaw7_block
        generalize Array.push hx (.cells #[(.int .u64 (b0 + ((l.getD j ce0).a : Int))), (.int .u64 ((l.getD j ce0).n : Int)), (.int .u8 (l.getD j ce0).m)] T.T_croftlaw7_block) = h7 at N7 ⊢
        have I7 := I.new N7
        obtain ⟨os, q1, q2⟩ := add7_ok (b0 := b0) (l := (l.take j).eraseIdx i) rfl (by omega) (I7.at 1) (row_l3 (b := l.getD j ce0) (I7.at 0))
        refine ⟨os, _, q1, fun p' c' h29 hres => hJ3 _ _ _ _ _ _ _ _ _ ?_⟩
        have I8 := I7.step 1 (q2 p' c' h29 hres)
        rw [hwr]
        have := ih (j + 1) p' c' h29 (by omega) (by rw [es, List.length_append]; exact I8.drop)
        rw [es, List.length_append] at this
        exact this
  exact key l.length 0 none 0 h (by omega) I0
end

def NoFit (l : List CE) (n kk r : Nat) : Prop :=
  (∀ i, i * 2 ^ kk < n → meetsE l (4096 * (i * 2 ^ kk)) (4096 * 2 ^ kk) = true) ∧ (r < 4096 → ∀ i, i < n → ¬ (0 < cntE l (4096 * i) r * r ∧ cntE l (4096 * i) r * r < 4096))

section
variable {w₀ : World} {h : Heap} {c : Cfg} {wb : Nat} {d : List Value} {Q : SL} {x : BU} {hp : Nat → Int} {K : Value → Heap → Prop} {l : List CE} {sp : Option Addr} {cap : Nat}

theorem w_end (W : KI c x) (H : (w7R c wb d Q x hp).P h) (hK : K (.int .u64 (c.base + ((4096 * x.m.n : Nat) : Int))) h) : CallV Tryd.prog w₀ F.mem_Space_End [gptr Q.pl.B.s] h K := by
  rw [← W.span] at hK
  exact mem_End_ok (s_sp (w_s H)) hK

theorem noFit_ok {kk r : Nat} (W : KI c x) (H : (w7R c wb d Q x hp).P h) (D : BdE c.base l) (hl2 : l.length ≤ 1048576) (R : Row h sp (l.length * 3) (ceV c.base l)) (hk : kk ≤ 8) (hr : (r < 4096 ∧ kk = 0) ∨ (4096 ≤ r ∧ r = 4096 * 2 ^ kk))
    (hK : K (.bool (decide (NoFit l x.m.n kk r))) h) :
    CallV Tryd.prog w₀ F.croftlaw7_world_noFit [gptr wb, .slice sp l.length cap, .int .u64 (r : Int)] h K := by
  refine croftlaw7_world_noFit.call ?_
  unfold croftlaw7_world_noFit.vc
  intro J1 hJ1
  have h8 := pow8 hk
  have n1 := W.ok.m.n1
  have h0 := Nat.two_pow_pos kk
  have hb := bu_bounds W.g W.ok.m
  have hr2 : r ≤ 1048576 := by omega
  have tail : J1 [gptr wb, .slice sp l.length cap, .int .u64 (r : Int), .int .u64 ((4096 * 2 ^ kk : Nat) : Int)] h := by
    refine hJ1 _ _ _ _ _ _ _ ⟨_, rfl, _, w_c3 H, _, rfl, ground_Space_ok (s_pl (w_s H)) ⟨_, rfl, w_end W H ⟨_, rfl, fun J4 hJ4 => ⟨_, rfl, _, w_c0 H, fun L10 hL10 => ?_⟩⟩⟩⟩
    have second : (∀ i, i * 2 ^ kk < x.m.n → meetsE l (4096 * (i * 2 ^ kk)) (4096 * 2 ^ kk) = true) → J4 [gptr wb, .slice sp l.length cap, .int .u64 (r : Int), .int .u64 (c.base + ((4096 * x.m.n : Nat) : Int))] h := by
      intro hall
      refine hJ4 _ _ _ _ _ _ _ fun J5 hJ5 => ⟨_, rfl, _, w_c0 H, fun L6 hL6 => ?_⟩
      have yes : (r < 4096 → ∀ i, i < x.m.n → ¬ (0 < cntE l (4096 * i) r * r ∧ cntE l (4096 * i) r * r < 4096)) → J5 [] h := fun h2 => by
        refine hJ5 _ ?_
        have : NoFit l x.m.n kk r := ⟨hall, h2⟩
        rw [decide_eq_true this] at hK
        exact hK
      have loop : ∀ (dd i : Nat), i + dd = x.m.n → (r < 4096 → ∀ j, j < i → ¬ (0 < cntE l (4096 * j) r * r ∧ cntE l (4096 * j) r * r < 4096)) → L6 [.slice sp l.length cap, .int .u64 (r : Int), .int .u64 (c.base + ((4096 * x.m.n : Nat) : Int)), .int .u64 (c.base + ((4096 * i : Nat) : Int))] h := by
        intro dd
        induction dd with
        | zero =>
          intro i hi hno
          refine hL6 _ _ _ _ _ _ _ fun J7 hJ7 => ?_
          have hf : ¬ (c.base + ((4096 * i : Nat) : Int) < c.base + ((4096 * x.m.n : Nat) : Int)) := by omega
          by_cases h4 : r < 4096
          · exact qT (decide_eq_true (by omega)) (hJ7 _ _ (iF (decide_eq_false hf) (yes fun h i' hi' => hno h i' (by omega))))
          · exact qF' (decide_eq_false (by omega)) (hJ7 _ _ (iF rfl (yes fun h => absurd h h4)))
        | succ dd ih =>
          intro i hi hno
          refine hL6 _ _ _ _ _ _ _ fun J7 hJ7 => ?_
          by_cases h4 : r < 4096
          · refine qT (decide_eq_true (by omega)) (hJ7 _ _ (iT (decide_eq_true (by omega)) (covered_ok D hl2 R (by omega) (by omega) ⟨_, rfl, fun J9 hJ9 => ?_⟩)))
            have cont : ¬ (0 < cntE l (4096 * i) r * r ∧ cntE l (4096 * i) r * r < 4096) → L6 [.slice sp l.length cap, .int .u64 (r : Int), .int .u64 (c.base + ((4096 * x.m.n : Nat) : Int)), .int .u64 (IntKind.wrap .u64 (c.base + ((4096 * i : Nat) : Int) + 4096))] h := fun hn => by
              have e : IntKind.wrap .u64 (c.base + ((4096 * i : Nat) : Int) + 4096) = c.base + ((4096 * (i + 1) : Nat) : Int) := by rw [wU (by unfold U64; omega)]; omega
              rw [e]
              refine ih (i + 1) (by omega) fun h j hj => ?_
              rcases Nat.lt_or_ge j i with h1 | h1
              · exact hno h j h1
              · have : j = i := by omega
                subst this; exact hn
            have bad : (0 < cntE l (4096 * i) r * r ∧ cntE l (4096 * i) r * r < 4096) → K (.bool false) h := fun hh => by
              have : ¬ NoFit l x.m.n kk r := fun hs => hs.2 h4 i (by omega) hh
              rw [decide_eq_false this] at hK
              exact hK
            generalize cntE l (4096 * i) r * r = C at cont bad ⊢
            by_cases c1 : 0 < C
            · refine qT (decide_eq_true (by omega)) (hJ9 _ _ ?_)
              by_cases c2 : C < 4096
              · exact iT (decide_eq_true (by omega)) (bad ⟨c1, c2⟩)
              · exact iF (decide_eq_false (by omega)) (cont fun h => c2 h.2)
            · exact qF' (decide_eq_false (by omega)) (hJ9 _ _ (iF rfl (cont fun h => c1 h.1)))
          · exact qF' (decide_eq_false (by omega)) (hJ7 _ _ (iF rfl (yes fun h => absurd h h4)))
      have := loop x.m.n 0 (by omega) fun _ j hj => by omega
      rw [Nat.mul_zero] at this
      simpa using this
    have loop : ∀ (dd i : Nat), x.m.n ≤ i * 2 ^ kk + dd → i * 2 ^ kk ≤ x.m.n + 256 → (∀ j, j < i → meetsE l (4096 * (j * 2 ^ kk)) (4096 * 2 ^ kk) = true) →
        L10 [gptr wb, .slice sp l.length cap, .int .u64 (r : Int), .int .u64 ((4096 * 2 ^ kk : Nat) : Int), .int .u64 (c.base + ((4096 * x.m.n : Nat) : Int)), .int .u64 (c.base + ((4096 * (i * 2 ^ kk) : Nat) : Int))] h := by
      intro dd
      induction dd with
      | zero =>
        intro i hi hle hall
        refine hL10 _ _ _ _ _ _ _ _ _ (iF (decide_eq_false (by omega)) (second fun j hj => hall j (Nat.lt_of_mul_lt_mul_right (a := 2 ^ kk) (by omega))))
      | succ dd ih =>
        intro i hi hle hall
        by_cases hlt : i * 2 ^ kk < x.m.n
        · refine hL10 _ _ _ _ _ _ _ _ _ (iT (decide_eq_true (by omega)) (meets7_ok D R (by omega) (by omega) ⟨_, rfl, ?_⟩))
          cases hm : meetsE l (4096 * (i * 2 ^ kk)) (4096 * 2 ^ kk) with
          | false =>
            refine iT rfl ?_
            have : ¬ NoFit l x.m.n kk r := fun hs => by rw [hs.1 i hlt] at hm; cases hm
            rw [decide_eq_false this] at hK
            exact hK
          | true =>
            have e : IntKind.wrap .u64 (c.base + ((4096 * (i * 2 ^ kk) : Nat) : Int) + ((4096 * 2 ^ kk : Nat) : Int)) = c.base + ((4096 * ((i + 1) * 2 ^ kk) : Nat) : Int) := by rw [show (i + 1) * 2 ^ kk = i * 2 ^ kk + 2 ^ kk from Nat.succ_mul _ _, wU (by unfold U64; omega)]; omega
            refine iF rfl ?_
            rw [e]
            refine ih (i + 1) (by rw [show (i + 1) * 2 ^ kk = i * 2 ^ kk + 2 ^ kk from Nat.succ_mul _ _]; omega) (by rw [show (i + 1) * 2 ^ kk = i * 2 ^ kk + 2 ^ kk from Nat.succ_mul _ _]; omega) fun j hj => ?_
            rcases Nat.lt_or_ge j i with h1 | h1
            · exact hall j h1
            · have : j = i := by omega
              subst this; exact hm
        · refine hL10 _ _ _ _ _ _ _ _ _ (iF (decide_eq_false (by omega)) (second fun j hj => hall j (Nat.lt_of_mul_lt_mul_right (a := 2 ^ kk) (by omega))))
    have := loop x.m.n 0 (by omega) (by omega) fun j hj => by omega
    rw [Nat.zero_mul, Nat.mul_zero] at this
    simpa using this
  rcases hr with ⟨h4, e⟩ | ⟨h4, e⟩
  · rw [e] at tail
    exact iT (decide_eq_true (by omega)) tail
  · rw [← e] at tail
    exact iF (decide_eq_false (by omega)) tail
end
end Go.Proofs.YteemmpkhdllapaaDoor
