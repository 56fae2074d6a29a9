/- croftlaw3: cell, drop, has, held. No condition. -/
import Derived.Test.YtfijahblggnbbaaK8
set_option linter.unusedSimpArgs false
set_option linter.unusedVariables false
namespace Go.Proofs.Ytfijahblggnbbaa
open Go.V Classical

theorem nodup_lt : ∀ (n : Nat) (l : List Nat), l.Nodup → (∀ x ∈ l, x < n) → l.length ≤ n
  | 0, l, _, h => by
    cases l with
    | nil => exact Nat.le_refl _
    | cons a l => exact absurd (h a (List.mem_cons_self ..)) (by omega)
  | n + 1, l, hn, h => by
    have h1 := nodup_lt n (l.erase n) (hn.erase _) fun x hx => by
      have h2 := h x (List.mem_of_mem_erase hx)
      have h3 : x ≠ n := fun e => by
        subst e
        exact (List.Nodup.mem_erase_iff hn).1 hx |>.1 rfl
      omega
    have := List.length_erase_le (a := n) (l := l)
    by_cases hm : n ∈ l
    · rw [List.length_erase_of_mem hm] at h1; omega
    · rw [List.erase_of_not_mem hm] at h1; omega

theorem cells_len {l : List Int} (hn : l.Nodup) (hc : ∀ p ∈ l, Cell p) : l.length ≤ 256 := by
  have := nodup_lt 256 (l.map fun p => ((p - 4096) / 16).toNat) ?_ ?_
  · simpa using this
  · rw [List.Nodup, List.pairwise_map]
    refine List.Pairwise.imp_of_mem ?_ hn
    intro a b ha hb hab e
    obtain ⟨i, _, rfl⟩ := hc a ha
    obtain ⟨j, _, rfl⟩ := hc b hb
    apply hab
    have : i = j := by omega
    rw [this]
  · intro x hx
    obtain ⟨p, hp, rfl⟩ := List.mem_map.1 hx
    obtain ⟨i, _, rfl⟩ := hc p hp
    omega

theorem walkL_seg {st : Sto} (n1 : st.n = 1) : ∀ {l : List Int} {b : Int} {k : Nat}, (∀ p ∈ l, Cell p) → l.length ≤ k → Seg st b l 0 → walkL C1 st k (l.headD 0) b = l
  | [], b, 0, _, _, _ => rfl
  | [], b, k + 1, _, _, _ => by simp [walkL]
  | p :: l, b, 0, _, hk, _ => by simp at hk
  | p :: l, b, k + 1, hc, hk, H => by
    have hp := hc p (List.mem_cons_self ..)
    have t := cell_th n1 hp
    have h1 : lk2 st C1 p = b := by simp only [lk2, t, if_true]; exact H.2.1
    have h2 : lk1 st C1 p = l.headD 0 := by simp only [lk1, (th8 t).1, if_true]; exact H.1
    have hz : (p == 0) = false := by have := cell_lo hp; exact beq_false_of_ne (by omega)
    show walkL C1 st (k + 1) p b = p :: l
    simp only [walkL, h1, h2, t, hz]
    rw [walkL_seg n1 (fun q hq => hc q (List.mem_cons_of_mem _ hq)) (by simpa using hk) H.2.2]
    simp

theorem allL_inv {x : LS} {l : List Int} (H : Inv x l) : allL C1 x = l := by
  unfold allL
  have hr : roomU C1 x.st = 256 := by unfold roomU; rw [H.n1]; rfl
  rw [hr, H.hd]
  exact walkL_seg H.n1 H.cl (cells_len H.nd H.cl) H.sg

theorem seg_at {st : Sto} : ∀ {l : List Int} {b e : Int} {i : Nat}, Seg st b l e → i < l.length →
    st.rd C1 (l.getD i 0) = (if i + 1 < l.length then l.getD (i + 1) 0 else e) ∧ st.rd C1 (l.getD i 0 + 8) = (if i = 0 then b else l.getD (i - 1) 0)
  | [], _, _, _, _, h => by simp at h
  | p :: l, b, e, 0, H, _ => by
    refine ⟨?_, H.2.1⟩
    show st.rd C1 p = _
    rw [H.1]
    cases l <;> simp
  | p :: l, b, e, i + 1, H, h => by
    have h : i < l.length := by simpa using h
    obtain ⟨h1, h2⟩ := seg_at H.2.2 h
    refine ⟨?_, ?_⟩
    · show st.rd C1 (l.getD i 0) = _
      rw [h1]
      simp
    · show st.rd C1 (l.getD i 0 + 8) = _
      rw [h2]
      cases i <;> simp

def cellU (i : Int) : Int := 4096 + 16 * (i % 256)

theorem cellU_cell (i : Int) : Cell (cellU i) := ⟨(i % 256).toNat, by omega, by unfold cellU; omega⟩

theorem and_low (i : Int) (m : Nat) (hm : m ≤ 8) : ((BitVec.ofInt 64 i &&& BitVec.ofInt 64 ((2 ^ m - 1 : Nat) : Int)).toNat : Int) = i % ((2 ^ m : Nat) : Int) := by
  rw [BitVec.toNat_and, BitVec.toNat_ofInt, BitVec.toNat_ofInt]
  have h2 : 2 ^ m ≤ 2 ^ 8 := Nat.pow_le_pow_right (by omega) hm
  have h0 : 0 < 2 ^ m := Nat.pow_pos (by omega)
  have e : (((2 ^ m - 1 : Nat) : Int) % ((2 ^ 64 : Nat) : Int)).toNat = 2 ^ m - 1 := by omega
  rw [e, Nat.and_two_pow_sub_one_eq_mod]
  have hd : (2 ^ m : Nat) ∣ 2 ^ 64 := Nat.pow_dvd_pow 2 (by omega)
  obtain ⟨q, hq⟩ := hd
  rw [Int.natCast_emod, Int.toNat_of_nonneg (by omega)]
  rw [hq, Int.natCast_mul, Int.emod_emod_of_dvd _ ⟨_, rfl⟩]

theorem and255 (i : Int) : ((BitVec.ofInt 64 i &&& BitVec.ofInt 64 255).toNat : Int) = i % 256 := and_low i 8 (by omega)
theorem and3 (i : Int) : ((BitVec.ofInt 64 i &&& BitVec.ofInt 64 3).toNat : Int) = i % 4 := and_low i 2 (by omega)

def dropL (xs : List Int) (v : Int) : List Int := xs.filter (· != v)

section
variable {w₀ : World} {h : Heap} {s l : Nat} {c : Cfg} {Z : Nat → Prop} {x : LS} {K : Value → Heap → Prop}

theorem cell_ok {i : Int} (hK : K (.int .u64 (cellU i)) h) : CallV Try.prog w₀ F.croftlaw3_cell [.int .i64 i] h K := by
  refine croftlaw3_cell.call ?_
  unfold croftlaw3_cell.vc
  have e : (((BitVec.ofInt (IntKind.bits .i64) i &&& BitVec.ofInt (IntKind.bits .i64) 255).toNat : Nat) : Int) = i % 256 := and255 i
  rw [e, IntWalk.i64_in _ (by omega)]
  have w1 : IntKind.wrap .u64 (i % 256) = i % 256 := by rw [IntKind.wrap_u64, Int.emod_eq_of_lt (by omega) (by omega)]
  have w2 : IntKind.wrap .u64 (16 * (i % 256)) = 16 * (i % 256) := by rw [IntKind.wrap_u64, Int.emod_eq_of_lt (by omega) (by omega)]
  have w3 : IntKind.wrap .u64 (4096 + 16 * (i % 256)) = 4096 + 16 * (i % 256) := by rw [IntKind.wrap_u64, Int.emod_eq_of_lt (by omega) (by omega)]
  rw [w1, w2, w3]
  exact hK

theorem dropL_take (xs : List Int) (v : Int) {i : Nat} (hi : i < xs.length) : dropL (xs.take (i + 1)) v = dropL (xs.take i) v ++ (if xs.getD i 0 = v then [] else [xs.getD i 0]) := by
  unfold dropL
  rw [List.take_add_one, List.filter_append, List.getElem?_eq_getElem hi, List.getD_eq_getElem?_getD, List.getElem?_eq_getElem hi]
  by_cases h : xs[i] = v <;> simp [h]

theorem drop_ok {xs : List Int} {p : Option Addr} {cp : Nat} {v : Int} (hx : xs.length ≤ 1073741824) (P : Row h p xs.length (uL xs))
    (hK : ∀ (h' : Heap) (p' : Option Addr) (c' : Nat), New h h' (slR p' (dropL xs v).length c' 1 (uL (dropL xs v))) → K (.slice p' (dropL xs v).length c') h') :
    CallV Try.prog w₀ F.croftlaw3_drop [.slice p xs.length cp, .int .u64 v] h K := by
  refine croftlaw3_drop.call ?_
  unfold croftlaw3_drop.vc
  intro J1 hJ1 L2 hL2
  have loop : ∀ (k i : Nat) (ys : List Int) (p' : Option Addr) (c' : Nat) (h1 : Heap), i + k = xs.length → ys = dropL (xs.take i) v → New h h1 (slR p' ys.length c' 1 (uL ys)) →
      L2 [.slice p xs.length cp, .int .u64 v, .slice p' ys.length c', .int .i64 ((i : Nat) : Int)] h1 := by
    intro k
    induction k with
    | zero =>
      intro i ys p' c' h1 hi hy N
      refine hL2 _ _ _ _ _ _ _ _ _ (iF (decide_eq_false (by omega)) (hJ1 _ _ _ _ ?_))
      have e : xs.take i = xs := List.take_of_length_le (by omega)
      rw [e] at hy
      subst hy
      exact hK h1 p' c' N
    | succ k ih =>
      intro i ys p' c' h1 hi hy N
      have hyl : ys.length ≤ xs.length := by
        rw [hy]
        exact Nat.le_trans (List.length_filter_le _ _) (by simp; omega)
      refine hL2 _ _ _ _ _ _ _ _ _ (iT (decide_eq_true (by omega)) fun J3 hJ3 => ?_)
      have P1 : Row h1 p xs.length (uL xs) := P.upd N.u fun _ _ => id
      rcases P1 with P1 | ⟨b, o, rfl, P1⟩
      · omega
      have cl : cellAt h1 (Addr.add ⟨b, o, none⟩ (Int.toNat ((i : Nat) : Int) * 1)) = some (.int .u64 (xs.getD i 0)) := by
        simp only [add_mk, Int.toNat_natCast, Nat.mul_one]; exact P1 i (by omega)
      have hdt := dropL_take xs v (i := i) (by omega)
      have next : ∀ (zs : List Int) (p2 : Option Addr) (c2 : Nat) (h2 : Heap), zs = dropL (xs.take (i + 1)) v → New h h2 (slR p2 zs.length c2 1 (uL zs)) → J3 [.slice (some ⟨b, o, none⟩) xs.length cp, .int .u64 v, .slice p2 zs.length c2, .int .i64 ((i : Nat) : Int)] h2 := by
        intro zs p2 c2 h2 hz N2
        refine hJ3 _ _ _ _ _ _ _ _ _ ?_
        rw [IntWalk.i64_in _ (by omega)]
        have := ih (i + 1) zs p2 c2 h2 (by omega) hz N2
        simpa using this
      refine ⟨_, rfl, by omega, Int.ofNat_lt.2 (by omega), _, cl, ?_⟩
      by_cases hv : xs.getD i 0 = v
      · refine iF (eq_b hv) (next ys p' c' h1 ?_ N)
        rw [hdt, if_pos hv, List.append_nil, hy]
      · refine iT (ne_b hv) ⟨_, rfl, by omega, Int.ofNat_lt.2 (by omega), _, cl, ?_⟩
        obtain ⟨os, q1, q2⟩ := sl_app1 (zs := [(.int .u64 (0 : Int))]) (v := .int .u64 (xs.getD i 0)) (b := 8) (e := T.T_uint64) (T := T.T_uint64) N.p rfl rfl (by omega)
        refine ⟨os, _, q1, fun p2 c2 h2 hres => ?_⟩
        have := next (ys ++ [xs.getD i 0]) p2 c2 h2 (by rw [hdt, if_neg hv, hy]) ?_
        · simpa using this
        · refine N.stp ((q2 p2 c2 h2 hres).conv (fun Q => ?_) fun _ e => e)
          have := sl_congr Q (g := uL (ys ++ [xs.getD i 0])) fun j hj => uL_snoc ys (xs.getD i 0) j (by omega)
          simpa using this
  have := loop xs.length 0 [] none 0 h (by omega) (by simp [dropL]) ⟨Upd.refl _ _, sl_nil 1 _ h, fun b e => absurd e (sl_nil_fp b)⟩
  exact this

theorem has_ok {xs : List Int} {p : Option Addr} {cp : Nat} {v : Int} (hx : xs.length ≤ 1073741824) (P : Row h p xs.length (uL xs))
    (hK : ∀ (h' : Heap), Upd NoB h h' → K (.bool (decide (v ∈ xs))) h') : CallV Try.prog w₀ F.croftlaw3_has [.slice p xs.length cp, .int .u64 v] h K := by
  refine croftlaw3_has.call ?_
  unfold croftlaw3_has.vc
  refine drop_ok hx P fun h1 p1 c1 N => ⟨_, _, _, rfl, ?_⟩
  have e : ((((dropL xs v).length : Nat) : Int) != ((xs.length : Nat) : Int)) = decide (v ∈ xs) := by
    have h1 := List.length_filter_eq_length_iff (l := xs) (p := (· != v))
    by_cases hm : v ∈ xs
    · rw [decide_eq_true hm]
      refine ne_b fun e => ?_
      have := h1.1 (by unfold dropL at e; omega) v hm
      simp at this
    · rw [decide_eq_false hm]
      refine eq_b ?_
      have := h1.2 fun a ha => by simp; exact fun e => hm (e ▸ ha)
      unfold dropL
      omega
  rw [e]
  exact hK h1 N.u

theorem held_ok {want : List Int} {q : Option Addr} {cq : Nat} (I : Inv x want) (H : (andR (lwR s l C1 Z x) (slR q want.length cq 1 (uL want))).P h)
    (hK : ∀ h', Stp h h' (andR (lwR s l C1 Z x) (slR q want.length cq 1 (uL want))) (andR (lwR s l C1 Z x) (slR q want.length cq 1 (uL want))) → K (.bool true) h') :
    CallV Try.prog w₀ F.croftlaw3_held [.pointer (some ⟨s, 0, none⟩), .pointer (some ⟨l, 0, none⟩), .slice q want.length cq] h K := by
  refine croftlaw3_held.call ?_
  unfold croftlaw3_held.vc
  have hlen := cells_len I.nd I.cl
  have ha := allL_inv I
  refine all_ok H.1 fun h1 p1 c1 S1 => ⟨_, _, _, rfl, ?_⟩
  rw [ha] at S1 ⊢
  have T1 := S1.left H
  have T1' : Stp h h1 (andR (lwR s l C1 Z x) (slR q want.length cq 1 (uL want))) (andR (lwR s l C1 Z x) (slR q want.length cq 1 (uL want))) :=
    T1.conv (fun P => ⟨P.1.1, P.2.1, fun b e e' => P.2.2 b (.inl e) e'⟩) fun b e => e.elim (fun e => .inl (.inl e)) .inr
  have R1 : Row h1 p1 want.length (uL want) := by have := sl_row T1.p.1.2.1; simpa using this
  have R2 : Row h1 q want.length (uL want) := by have := sl_row T1.p.2.1; simpa using this
  refine same_ok (by omega) R1 R2 ⟨_, rfl, iF (by simp) fun J3 hJ3 L9 hL9 => ?_⟩
  have cel : ∀ {h2 : Heap} (P : (andR (lwR s l C1 Z x) (slR q want.length cq 1 (uL want))).P h2) {i : Nat} (hi : i < want.length), ∃ a, q = some a ∧ ∀ j : Int, j = ((i : Nat) : Int) → cellAt h2 (a.add (Int.toNat j * 1)) = some (.int .u64 (want.getD i 0)) := by
    intro h2 P i hi
    obtain ⟨b, e, hc⟩ := sl_cell P.2.1 (i := i) (by omega)
    refine ⟨_, e, fun j hj => ?_⟩
    subst hj
    simpa [uL] using hc
  have loop : ∀ (k i : Nat) (h2 : Heap), i + k = want.length → Stp h h2 (andR (lwR s l C1 Z x) (slR q want.length cq 1 (uL want))) (andR (lwR s l C1 Z x) (slR q want.length cq 1 (uL want))) →
      L9 [.pointer (some ⟨s, 0, none⟩), .pointer (some ⟨l, 0, none⟩), .slice q want.length cq, .int .i64 ((i : Nat) : Int)] h2 := by
    intro k
    induction k with
    | zero =>
      intro i h2 hi S2
      have P2 := S2.p
      refine hL9 _ _ _ _ _ _ _ (iF (decide_eq_false (by omega)) (hJ3 _ _ _ _ _ fun J4 hJ4 => ?_))
      rcases Nat.eq_zero_or_pos want.length with hz | hz
      · refine qT (by simp [hz]) (links_Head_ok P2.1.1 ⟨_, rfl, hJ4 _ _ fun J5 hJ5 => ?_⟩)
        have hw : want = [] := List.length_eq_zero_iff.1 hz
        have e : (x.hd == 0) = true := by rw [I.hd, hw]; rfl
        rw [e]
        exact pT rfl (hJ5 _ _ (hK h2 S2))
      · refine qF' (beq_false_of_ne (by omega)) (hJ4 _ _ fun J5 hJ5 => pF rfl fun J6 hJ6 => qT (decide_eq_true (by omega)) ?_)
        obtain ⟨a, ea, hc⟩ := cel P2 (i := 0) hz
        refine ⟨a, ea, by omega, by omega, _, hc 0 rfl, links_Head_ok P2.1.1 ⟨_, rfl, hc 0 rfl, hJ6 _ _ (hJ5 _ _ ?_)⟩⟩
        have e : (x.hd == want.getD 0 0) = true := by
          rw [I.hd]
          cases want with
          | nil => simp at hz
          | cons a l => simp
        rw [e]
        exact hK h2 S2
    | succ k ih =>
      intro i h2 hi S2
      have P2 := S2.p
      obtain ⟨g1, g2⟩ := seg_at I.sg (i := i) (by omega)
      have hci : Cell (want.getD i 0) := by
        rw [List.getD_eq_getElem?_getD, List.getElem?_eq_getElem (by omega)]
        exact I.cl _ (List.getElem_mem _)
      have hlo := cell_lo hci
      have t16 := cell_th I.n1 hci
      obtain ⟨t1, t2⟩ := th8 t16
      refine hL9 _ _ _ _ _ _ _ (iT (decide_eq_true (by omega)) fun J10 hJ10 => ?_)
      have ei : IntKind.wrap .i64 (((i : Nat) : Int) + 1) = (((i + 1 : Nat)) : Int) := by rw [IntWalk.i64_in _ (by omega)]; omega
      have core10 : ∀ nx, nx = (if i + 1 < want.length then want.getD (i + 1) 0 else 0) → J10 [.pointer (some ⟨s, 0, none⟩), .pointer (some ⟨l, 0, none⟩), .slice q want.length cq, .int .i64 ((i : Nat) : Int), .int .u64 nx, .int .u64 0] h2 := by
        intro nx hnx
        refine hJ10 _ _ _ _ _ _ _ _ _ fun J11 hJ11 => ?_
        have core11 : ∀ bx, bx = (if i = 0 then 0 else want.getD (i - 1) 0) → J11 [.pointer (some ⟨s, 0, none⟩), .pointer (some ⟨l, 0, none⟩), .slice q want.length cq, .int .i64 ((i : Nat) : Int), .int .u64 nx, .int .u64 bx] h2 := by
          intro bx hbx
          obtain ⟨a, ea, hc⟩ := cel P2 (i := i) (by omega)
          refine hJ11 _ _ _ _ _ _ _ _ _ ⟨a, ea, by omega, Int.ofNat_lt.2 (by omega), _, hc _ rfl, ?_⟩
          refine word_ok (cell_u64 hci) P2.1.2.1 fun h3 u3 => ⟨_, rfl, fun J13 hJ13 => ?_⟩
          have S3 := S2.trans (Stp.quiet P2 u3)
          have P3 := S3.p
          obtain ⟨a', ea', hc'⟩ := cel P3 (i := i) (by omega)
          rw [if_pos t1, g1]
          refine pF (eq_b hnx.symm) ⟨a', ea', by omega, Int.ofNat_lt.2 (by omega), _, hc' _ rfl, ?_⟩
          rw [wrap_add8 (by omega) (by omega)]
          refine word_ok (by omega) P3.1.2.1 fun h4 u4 => ⟨_, rfl, hJ13 _ _ ?_⟩
          have S4 := S3.trans (Stp.quiet P3 u4)
          rw [if_pos t2, g2]
          refine iF (eq_b hbx.symm) ?_
          rw [ei]
          exact ih (i + 1) h4 (by omega) S4
        rcases Nat.eq_zero_or_pos i with hz | hz
        · exact iF (decide_eq_false (by omega)) (core11 0 (by rw [if_pos hz]))
        · have ej : IntKind.wrap .i64 (((i : Nat) : Int) - 1) = (((i - 1 : Nat)) : Int) := by rw [IntWalk.i64_in _ (by omega)]; omega
          obtain ⟨a, ea, hc⟩ := cel P2 (i := i - 1) (by omega)
          refine iT (decide_eq_true (by omega)) ⟨a, ea, ?_⟩
          rw [ej]
          exact ⟨by omega, Int.ofNat_lt.2 (by omega), _, hc _ rfl, core11 _ (by rw [if_neg (by omega)])⟩
      rw [ei]
      by_cases hb : i + 1 < want.length
      · obtain ⟨a, ea, hc⟩ := cel P2 (i := i + 1) hb
        exact iT (decide_eq_true (Int.ofNat_lt.2 hb)) ⟨a, ea, by omega, Int.ofNat_lt.2 hb, _, hc _ rfl, core10 _ (by rw [if_pos hb])⟩
      · exact iF (decide_eq_false (fun e => hb (Int.ofNat_lt.1 e))) (core10 _ (by rw [if_neg hb]))
  exact loop want.length 0 h1 (by omega) T1'
end
end Go.Proofs.Ytfijahblggnbbaa
