/- Several texts in one. No condition. -/
import Derived.Test.YteemmpkhdllapaaDoorZM2
import Derived.Test.YteemmpkhdllapaaDoorZM3
/- links: a list and the space beneath it, as plain states; what links, Push, Remove and Pop do. No condition. -/
set_option linter.unusedSimpArgs false
set_option linter.unusedVariables false
namespace Go.Proofs.YteemmpkhdllapaaDoor
open Go.V Classical

structure Sto where
  n : Nat
  M : Nat → Int

def Sto.th (st : Sto) (c : Cfg) (p q : Int) : Bool := (q == 0) || (decide (c.base ≤ p) && decide (p - c.base + q ≤ ((st.n * c.size : Nat) : Int)))
def Sto.rd (st : Sto) (c : Cfg) (p : Int) : Int := wrd (fun i => st.M ((p - c.base).toNat + i)) 8
def Sto.wr (st : Sto) (c : Cfg) (p v : Int) : Sto := ⟨st.n, fun o => if (p - c.base).toNat ≤ o ∧ o < (p - c.base).toNat + 8 then byteOf v (o - (p - c.base).toNat) else st.M o⟩

@[simp] theorem wr_n (st : Sto) (c : Cfg) (p v : Int) : (st.wr c p v).n = st.n := rfl
@[simp] theorem wr_th (st : Sto) (c : Cfg) (p v a b : Int) : (st.wr c p v).th c a b = st.th c a b := rfl

theorem th_iff {st : Sto} {c : Cfg} {p q : Int} : st.th c p q = true ↔ There c st.n p q := by
  unfold Sto.th There
  simp [Bool.or_eq_true, Bool.and_eq_true, decide_eq_true_eq, beq_iff_eq]

theorem th_false {st : Sto} {c : Cfg} {p q : Int} : st.th c p q = false ↔ ¬ There c st.n p q := by
  rw [← th_iff]; cases st.th c p q <;> simp

abbrev U64 (p : Int) : Prop := 0 ≤ p ∧ p < 18446744073709551616

def spR (s : Nat) (c : Cfg) (Z : Nat → Prop) (st : Sto) : Res := ⟨Z, fun h => Sp h s c st.n st.M Z, fun H hu hs => H.upd hu hs, fun H => H.lt⟩

def lsf (s : Nat) (hd : Int) : Nat → Value
  | 0 => .pointer (some ⟨s, 0, none⟩)
  | _ => .int .u64 hd

def lsR (s : Nat) (l : Nat) (hd : Int) : Res := factR (U64 hd) (blkR l 2 (lsf s hd))

section
variable {w₀ : World} {h : Heap} {s l : Nat} {c : Cfg} {Z : Nat → Prop} {st : Sto} {hd : Int} {K : Value → Heap → Prop}

theorem ls_s (L : (lsR s l hd).P h) : cellAt h ⟨l, 0, none⟩ = some (.pointer (some ⟨s, 0, none⟩)) := L.2.cell (i := 0) (by omega)
theorem ls_h (L : (lsR s l hd).P h) : cellAt h ⟨l, 1, none⟩ = some (.int .u64 hd) := L.2.cell (i := 1) (by omega)
theorem ls_w (L : (lsR s l hd).P h) : Wr h ⟨l, 1, none⟩ := L.2.wr (i := 1) (by omega)

theorem sp_end (H : (spR s c Z st).P h) : c.base + ((st.n * c.size : Nat) : Int) ≤ 9223372036854775808 ∧ 0 < c.base := ⟨(H.good.len H.nl).2, H.good.b0⟩

theorem th_lt (H : (spR s c Z st).P h) {p q : Int} (t : st.th c p q = true) (hq : 0 < q) : c.base ≤ p ∧ p + q ≤ 9223372036854775808 ∧ p - c.base + q ≤ ((st.n * c.size : Nat) : Int) := by
  have := sp_end H
  rcases th_iff.1 t with e | ⟨e1, e2⟩
  · omega
  · omega

theorem th_16 {st : Sto} {c : Cfg} {p : Int} : st.th c p 16 = (st.th c p 8 && st.th c (p + 8) 8) := by
  have h1 := th_iff (st := st) (c := c) (p := p) (q := 16)
  have h2 := th_iff (st := st) (c := c) (p := p) (q := 8)
  have h3 := th_iff (st := st) (c := c) (p := p + 8) (q := 8)
  unfold There at h1 h2 h3
  rw [Bool.eq_iff_iff, Bool.and_eq_true, h1, h2, h3]
  generalize st.n * c.size = x
  omega

theorem rd_U64 (H : (spR s c Z st).P h) {p : Int} (t : st.th c p 8 = true) : U64 (st.rd c p) := by
  have h1 := th_lt H t (by omega)
  have := wrd_lt (k := 8) (f := fun i => st.M ((p - c.base).toNat + i)) fun i hi => H.by8 _ (by omega)
  exact ⟨this.1, this.2⟩

def lk1 (st : Sto) (c : Cfg) (p : Int) : Int := if st.th c p 8 then st.rd c p else 0
def lk2 (st : Sto) (c : Cfg) (p : Int) : Int := if st.th c p 16 then st.rd c (p + 8) else 0

theorem wrap_add8 {p : Int} (h0 : 0 ≤ p) (h1 : p + 8 < 18446744073709551616) : IntKind.wrap .u64 (p + 8) = p + 8 := by
  rw [IntKind.wrap_u64, Int.emod_eq_of_lt (by omega) (by omega)]

theorem links_links_ok {p : Int} (hp : U64 p) (L : (lsR s l hd).P h) (H : (spR s c Z st).P h)
    (hK : ∀ h', Upd NoB h h' → K (.tuple #[.int .u64 (lk1 st c p), .int .u64 (lk2 st c p), .bool (st.th c p 16)]) h') :
    CallV Tryd.prog w₀ F.links_List_links [.pointer (some ⟨l, 0, none⟩), .int .u64 p] h K := by
  refine links_List_links.call ?_
  unfold links_List_links.vc
  refine ⟨_, rfl, _, ls_s L, ?_⟩
  refine mem_Word_ok hp H (fun t h1 u1 => ?_) (fun t h1 u1 => ?_)
  · have t := th_iff.2 t
    have L1 := (lsR s l hd).st L u1 fun _ _ => id
    have H1 := (spR s c Z st).st H u1 fun _ _ => id
    have hlt := th_lt H t (by omega)
    have h0 := (sp_end H).2
    refine ⟨_, _, rfl, iF rfl ⟨_, rfl, _, ls_s L1, ?_⟩⟩
    rw [wrap_add8 hp.1 (by omega)]
    refine mem_Word_ok (by omega) H1 (fun t2 h2 u2 => ?_) (fun t2 h2 u2 => ?_)
    · have t2 := th_iff.2 t2
      refine ⟨_, _, rfl, fun J hJ => qT rfl (hJ _ _ ?_)⟩
      have := hK h2 (u1.nx u2 fun _ e _ => e)
      have e : st.th c p 16 = true := by rw [th_16, t, t2]; rfl
      have e2 : decide (p + 8 > p) = true := decide_eq_true (by omega)
      rw [e2]
      simp only [lk1, lk2, t, e, if_true] at this
      exact this
    · have t2 := th_false.2 t2
      refine ⟨_, _, rfl, fun J hJ => qF' rfl (hJ _ _ ?_)⟩
      have := hK h2 (u1.nx u2 fun _ e _ => e)
      have e : st.th c p 16 = false := by rw [th_16, t, t2]; rfl
      simp only [lk1, lk2, t, e, if_true, Bool.false_eq_true, if_false] at this
      exact this
  · have t := th_false.2 t
    refine ⟨_, _, rfl, iT rfl ?_⟩
    have := hK h1 u1
    have e : st.th c p 16 = false := by rw [th_16, t]; rfl
    simp only [lk1, lk2, t, e, Bool.false_eq_true, if_false] at this
    exact this

theorem setw_ok {p v : Int} (hp : U64 p) (hv : U64 v) (t : st.th c p 8 = true) (H : (spR s c Z st).P h)
    (hK : ∀ h', Stp h h' (spR s c Z st) (spR s c Z (st.wr c p v)) → K (.int .i64 0) h') : CallV Tryd.prog w₀ F.mem_Space_SetWord [.pointer (some ⟨s, 0, none⟩), .int .u64 p, .int .u64 v] h K :=
  mem_SetWord_ok hp hv H (fun _ h' u H' => hK h' ⟨u, H', fun _ e => .inl e⟩) (fun t' => absurd (th_iff.1 t) t')

structure LS where
  st : Sto
  hd : Int

abbrev lwR (s l : Nat) (c : Cfg) (Z : Nat → Prop) (x : LS) : Res := andR (lsR s l x.hd) (spR s c Z x.st)

def pushU (c : Cfg) (x : LS) (p : Int) : LS × Int :=
  if x.st.th c p 16 = false then (x, 4)
  else if x.hd ≠ 0 ∧ (x.st.th c x.hd 16 = false ∨ x.st.rd c (x.hd + 8) ≠ 0) then (x, 8)
  else (⟨(if x.hd ≠ 0 then ((x.st.wr c p x.hd).wr c (p + 8) 0).wr c (x.hd + 8) p else (x.st.wr c p x.hd).wr c (p + 8) 0), p⟩, 0)

theorem set_head (hd' : Int) (hu : U64 hd') (L : (lsR s l hd).P h) : Stp h (setC h ⟨l, 1, none⟩ (.int .u64 hd')) (lsR s l hd) (lsR s l hd') := by
  have S := Stp.set L.2 1 (.int .u64 hd') (g := lsf s hd') fun j hj => by
    rcases Nat.lt_or_ge j 1 with h1 | h1
    · have : j = 0 := by omega
      subst this; rfl
    · have : j = 1 := by omega
      subst this; rfl
  exact ⟨S.u, ⟨hu, S.p⟩, S.g⟩

end
end Go.Proofs.YteemmpkhdllapaaDoor

/- links: Push, Remove, Pop, Head, New, with one plain answer each. No condition. -/
set_option linter.unusedSimpArgs false
set_option linter.unusedVariables false
namespace Go.Proofs.YteemmpkhdllapaaDoor
open Go.V Classical

def sndU (c : Cfg) (x : LS) (p n b : Int) : Bool :=
  (((b == 0) == (p == x.hd)) && (b == 0 || (x.st.th c b 16 && x.st.rd c b == p))) && (n == 0 || (x.st.th c n 16 && x.st.rd c (n + 8) == p))

def removeU (c : Cfg) (x : LS) (p : Int) : LS × Int :=
  if x.st.th c p 16 = false then (x, 4)
  else if sndU c x p (x.st.rd c p) (x.st.rd c (p + 8)) = false then (x, 8)
  else
    let y : LS := if x.st.rd c (p + 8) = 0 then ⟨x.st, x.st.rd c p⟩ else ⟨x.st.wr c (x.st.rd c (p + 8)) (x.st.rd c p), x.hd⟩
    ((if x.st.rd c p ≠ 0 then ⟨y.st.wr c (x.st.rd c p + 8) (x.st.rd c (p + 8)), y.hd⟩ else y), 0)

def popU (c : Cfg) (x : LS) : LS × Int × Int :=
  if x.hd = 0 then (x, 0, 9) else
  if (removeU c x x.hd).2 ≠ 0 then ((removeU c x x.hd).1, 0, (removeU c x x.hd).2) else ((removeU c x x.hd).1, x.hd, 0)

section
variable {w₀ : World} {h : Heap} {s l : Nat} {c : Cfg} {Z : Nat → Prop} {x : LS} {K : Value → Heap → Prop}

theorem ne_b {a b : Int} (h : a ≠ b) : (a != b) = true := by simpa using h
theorem eq_b {a b : Int} (h : a = b) : (a != b) = false := by simpa using h

theorem ls_h1 {hd : Int} (L : (lsR s l hd).P h) : cellAt h ((⟨l, 0, none⟩ : Addr).add 1) = some (.int .u64 hd) := by rw [add_mk]; exact ls_h L
theorem ls_w1 {hd : Int} (L : (lsR s l hd).P h) : Wr h ((⟨l, 0, none⟩ : Addr).add 1) := by rw [add_mk]; exact ls_w L

theorem th8 {st : Sto} {p : Int} (t : st.th c p 16 = true) : st.th c p 8 = true ∧ st.th c (p + 8) 8 = true := by
  rw [th_16, Bool.and_eq_true] at t; exact t

theorem links_Push_ok {p : Int} (hp : U64 p) (H : (lwR s l c Z x).P h)
    (hK : ∀ h', Stp h h' (lwR s l c Z x) (lwR s l c Z (pushU c x p).1) → K (.int .i64 (pushU c x p).2) h') : CallV Tryd.prog w₀ F.links_List_Push [.pointer (some ⟨l, 0, none⟩), .int .u64 p] h K := by
  refine links_List_Push.call ?_
  unfold links_List_Push.vc
  refine links_links_ok hp H.1 H.2.1 fun h1 u1 => ⟨_, _, _, rfl, ?_⟩
  have S1 : Stp h h1 (lwR s l c Z x) (lwR s l c Z x) := Stp.quiet H u1
  have H1 := S1.p
  cases t : x.st.th c p 16
  · have e : pushU c x p = (x, 4) := by simp [pushU, t]
    rw [e] at hK
    exact iT rfl (hK h1 S1)
  refine iF rfl fun J2 hJ2 => ?_
  have tl := th_lt H1.2.1 t (by omega)
  have b0 := (sp_end H1.2.1).2
  obtain ⟨t1, t2⟩ := th8 t
  have core : ∀ h2, Stp h h2 (lwR s l c Z x) (lwR s l c Z x) → (x.hd = 0 ∨ (x.st.th c x.hd 16 = true ∧ x.st.rd c (x.hd + 8) = 0)) → J2 [.pointer (some ⟨l, 0, none⟩), .int .u64 p] h2 := by
    intro h2 S2 ok
    have hnb : ¬ (x.hd ≠ 0 ∧ (x.st.th c x.hd 16 = false ∨ x.st.rd c (x.hd + 8) ≠ 0)) := by
      rintro ⟨h0, h1⟩
      rcases ok with e | ⟨e1, e2⟩
      · exact h0 e
      · rcases h1 with h1 | h1
        · rw [e1] at h1; cases h1
        · exact h1 e2
    have H2 := S2.p
    refine hJ2 _ _ _ ⟨_, rfl, _, ls_s H2.1, _, rfl, _, ls_h1 H2.1, ?_⟩
    refine setw_ok hp H2.1.1 t1 H2.2.1 fun h3 T3 => ⟨_, rfl, ?_⟩
    have S3 : Stp h h3 (lwR s l c Z x) (lwR s l c Z ⟨x.st.wr c p x.hd, x.hd⟩) := S2.trans (T3.right H2)
    have H3 := S3.p
    refine ⟨_, rfl, _, ls_s H3.1, ?_⟩
    rw [wrap_add8 hp.1 (by omega)]
    refine setw_ok (st := x.st.wr c p x.hd) (by omega) (by omega) t2 H3.2.1 fun h4 T4 => ⟨_, rfl, fun J5 hJ5 => ?_⟩
    have S4 : Stp h h4 (lwR s l c Z x) (lwR s l c Z ⟨(x.st.wr c p x.hd).wr c (p + 8) 0, x.hd⟩) := S3.trans (T4.right H3)
    have H4 := S4.p
    have fin : ∀ (h5 : Heap) (st5 : Sto), Stp h h5 (lwR s l c Z x) (lwR s l c Z ⟨st5, x.hd⟩) → pushU c x p = (⟨st5, p⟩, 0) → J5 [.pointer (some ⟨l, 0, none⟩), .int .u64 p] h5 := by
      intro h5 st5 S5 e
      have H5 := S5.p
      refine hJ5 _ _ _ ⟨_, rfl, ls_w1 H5.1, ?_⟩
      rw [e] at hK
      rw [add_mk]
      exact hK _ (S5.trans ((set_head p hp H5.1).left H5))
    refine ⟨_, rfl, _, ls_h1 H4.1, ?_⟩
    by_cases hz : x.hd = 0
    · exact iF (eq_b hz) (fin h4 _ S4 (by unfold pushU; rw [if_neg (by simp [t]), if_neg hnb, if_neg (by simp [hz])]))
    · obtain ⟨e1, e2⟩ := ok.resolve_left hz
      have el := th_lt H4.2.1 (st := (x.st.wr c p x.hd).wr c (p + 8) 0) (p := x.hd) (q := 16) e1 (by omega)
      have hu : U64 x.hd := H4.1.1
      refine iT (ne_b hz) ⟨_, rfl, _, ls_s H4.1, _, rfl, _, ls_h1 H4.1, ?_⟩
      rw [wrap_add8 hu.1 (by omega)]
      refine setw_ok (st := (x.st.wr c p x.hd).wr c (p + 8) 0) (by have := hu.1; omega) hp (th8 e1).2 H4.2.1 fun h5 T5 => ⟨_, rfl, ?_⟩
      exact fin h5 _ (S4.trans (T5.right H4)) (by unfold pushU; rw [if_neg (by simp [t]), if_neg hnb, if_pos hz])
  refine ⟨_, rfl, _, ls_h1 H1.1, ?_⟩
  by_cases hz : x.hd = 0
  · exact iF (eq_b hz) (core h1 S1 (.inl hz))
  refine iT (ne_b hz) (links_links_ok H1.1.1 H1.1 H1.2.1 fun h2 u2 => ⟨_, _, _, rfl, fun J9 hJ9 => ?_⟩)
  have S2 : Stp h h2 (lwR s l c Z x) (lwR s l c Z x) := S1.trans (Stp.quiet H1 u2)
  have bad : (x.st.th c x.hd 16 = false ∨ x.st.rd c (x.hd + 8) ≠ 0) → K (.int .i64 8) h2 := by
    intro hb
    have e : pushU c x p = (x, 8) := by unfold pushU; rw [if_neg (by simp [t]), if_pos ⟨hz, hb⟩]
    rw [e] at hK
    exact hK h2 S2
  cases t3 : x.st.th c x.hd 16
  · exact pT rfl (hJ9 _ _ (iT rfl (bad (.inl t3))))
  · refine pF rfl (hJ9 _ _ ?_)
    have e : lk2 x.st c x.hd = x.st.rd c (x.hd + 8) := by simp [lk2, t3]
    rw [e]
    by_cases hr : x.st.rd c (x.hd + 8) = 0
    · exact iF (eq_b hr) (core h2 S2 (.inr ⟨t3, hr⟩))
    · exact iT (ne_b hr) (bad (.inr hr))

theorem links_sound_ok {p n b : Int} (hp : U64 p) (hn : U64 n) (hb : U64 b) (L : (lsR s l x.hd).P h) (H : (spR s c Z x.st).P h)
    (hK : ∀ h', Upd NoB h h' → K (.bool (sndU c x p n b)) h') : CallV Tryd.prog w₀ F.links_List_sound [.pointer (some ⟨l, 0, none⟩), .int .u64 p, .int .u64 n, .int .u64 b] h K := by
  refine links_List_sound.call ?_
  unfold links_List_sound.vc
  refine ⟨_, rfl, _, ls_h1 L, ?_⟩
  cases e1 : ((b == 0) == (p == x.hd))
  · refine iT rfl ?_
    have := hK h (Upd.refl _ _)
    simp only [sndU, e1, Bool.false_and] at this
    exact this
  refine iF rfl fun J1 hJ1 => ?_
  have second : ∀ h1, Upd NoB h h1 → (b == 0 || (x.st.th c b 16 && x.st.rd c b == p)) = true → J1 [.pointer (some ⟨l, 0, none⟩), .int .u64 p, .int .u64 n] h1 := by
    intro h1 u1 e2
    refine hJ1 _ _ _ _ fun J2 hJ2 => ?_
    have L1 := (lsR s l x.hd).st L u1 fun _ _ => id
    have H1 := (spR s c Z x.st).st H u1 fun _ _ => id
    by_cases hz : n = 0
    · refine iF (eq_b hz) (hJ2 _ ?_)
      have := hK h1 u1
      simp only [sndU, e1, e2, Bool.true_and, hz, beq_self_eq_true, Bool.true_or] at this
      exact this
    refine iT (ne_b hz) (links_links_ok hn L1 H1 fun h2 u2 => ⟨_, _, _, rfl, fun J4 hJ4 => ?_⟩)
    have hk := hK h2 (u1.nx u2 fun _ e _ => e)
    have hz' : (n == 0) = false := by simpa using hz
    simp only [sndU, e1, e2, Bool.true_and, hz', Bool.false_or] at hk
    cases t : x.st.th c n 16
    · rw [t] at hk
      exact pT rfl (hJ4 _ _ (iT rfl hk))
    · rw [t] at hk
      refine pF rfl (hJ4 _ _ ?_)
      have e : lk2 x.st c n = x.st.rd c (n + 8) := by simp [lk2, t]
      rw [e]
      by_cases hr : x.st.rd c (n + 8) = p
      · exact iF (eq_b hr) (hJ2 _ (by simpa [hr] using hk))
      · exact iT (ne_b hr) (by rw [show (x.st.rd c (n + 8) == p) = false by simpa using hr] at hk; exact hk)
  by_cases hz : b = 0
  · exact iF (eq_b hz) (second h (Upd.refl _ _) (by simp [hz]))
  refine iT (ne_b hz) (links_links_ok hb L H fun h2 u2 => ⟨_, _, _, rfl, fun J6 hJ6 => ?_⟩)
  have hz' : (b == 0) = false := by simpa using hz
  have bad : (x.st.th c b 16 && x.st.rd c b == p) = false → K (.bool false) h2 := by
    intro hb
    have := hK h2 u2
    have e : sndU c x p n b = false := by
      unfold sndU
      rw [e1, hz', hb]
      rfl
    rw [e] at this
    exact this
  cases t : x.st.th c b 16
  · exact pT rfl (hJ6 _ _ (iT rfl (bad (by rw [t]; rfl))))
  · refine pF rfl (hJ6 _ _ ?_)
    have e : lk1 x.st c b = x.st.rd c b := by simp [lk1, (th8 t).1]
    rw [e]
    by_cases hr : x.st.rd c b = p
    · exact iF (eq_b hr) (second h2 u2 (by simp [t, hr]))
    · exact iT (ne_b hr) (bad (by simp [hr]))

theorem links_Remove_ok {p : Int} (hp : U64 p) (H : (lwR s l c Z x).P h)
    (hK : ∀ h', Stp h h' (lwR s l c Z x) (lwR s l c Z (removeU c x p).1) → K (.int .i64 (removeU c x p).2) h') : CallV Tryd.prog w₀ F.links_List_Remove [.pointer (some ⟨l, 0, none⟩), .int .u64 p] h K := by
  refine links_List_Remove.call ?_
  unfold links_List_Remove.vc
  refine links_links_ok hp H.1 H.2.1 fun h1 u1 => ⟨_, _, _, rfl, ?_⟩
  have S1 : Stp h h1 (lwR s l c Z x) (lwR s l c Z x) := Stp.quiet H u1
  have H1 := S1.p
  cases t : x.st.th c p 16
  · have e : removeU c x p = (x, 4) := by simp [removeU, t]
    rw [e] at hK
    exact iT rfl (hK h1 S1)
  obtain ⟨t1, t2⟩ := th8 t
  have n1 := rd_U64 H1.2.1 t1
  have n2 := rd_U64 H1.2.1 t2
  have e1 : lk1 x.st c p = x.st.rd c p := by simp [lk1, t1]
  have e2 : lk2 x.st c p = x.st.rd c (p + 8) := by simp [lk2, t]
  rw [e1, e2]
  refine iF rfl (links_sound_ok hp n1 n2 H1.1 H1.2.1 fun h2 u2 => ⟨_, rfl, ?_⟩)
  have S2 : Stp h h2 (lwR s l c Z x) (lwR s l c Z x) := S1.trans (Stp.quiet H1 u2)
  have H2 := S2.p
  cases g : sndU c x p (x.st.rd c p) (x.st.rd c (p + 8))
  · have e : removeU c x p = (x, 8) := by simp [removeU, t, g]
    rw [e] at hK
    exact iT rfl (hK h2 S2)
  refine iF rfl fun J3 hJ3 => ?_
  have g' := g
  simp only [sndU, Bool.and_eq_true, Bool.or_eq_true, beq_iff_eq] at g'
  obtain ⟨⟨g1, g2⟩, g3⟩ := g'
  have eR : removeU c x p = (let y : LS := if x.st.rd c (p + 8) = 0 then ⟨x.st, x.st.rd c p⟩ else ⟨x.st.wr c (x.st.rd c (p + 8)) (x.st.rd c p), x.hd⟩
    ((if x.st.rd c p ≠ 0 then ⟨y.st.wr c (x.st.rd c p + 8) (x.st.rd c (p + 8)), y.hd⟩ else y), 0)) := by
    unfold removeU
    rw [if_neg (by simp [t]), if_neg (by simp [g])]
  generalize x.st.rd c p = nn at *
  generalize x.st.rd c (p + 8) = bb at *
  have core : ∀ (h3 : Heap) (y : LS), Stp h h3 (lwR s l c Z x) (lwR s l c Z y) → (∀ a b, y.st.th c a b = x.st.th c a b) → removeU c x p = ((if nn ≠ 0 then ⟨y.st.wr c (nn + 8) bb, y.hd⟩ else y), 0) →
      J3 [.pointer (some ⟨l, 0, none⟩), .int .u64 nn, .int .u64 bb] h3 := by
    intro h3 y S3 hy e
    have H3 := S3.p
    refine hJ3 _ _ _ _ fun J4 hJ4 => ?_
    rw [e] at hK
    by_cases hz : nn = 0
    · rw [if_neg (by simp [hz])] at hK
      exact iF (eq_b hz) (hJ4 _ (hK h3 S3))
    · rw [if_pos hz] at hK
      have tn := (g3.resolve_left hz).1
      have tn' : y.st.th c nn 16 = true := by rw [hy]; exact tn
      have el := th_lt H3.2.1 tn' (by omega)
      refine iT (ne_b hz) ⟨_, rfl, _, ls_s H3.1, ?_⟩
      rw [wrap_add8 n1.1 (by omega)]
      exact setw_ok (by have := n1.1; omega) n2 (th8 tn').2 H3.2.1 fun h4 T4 => ⟨_, rfl, hJ4 _ (hK h4 (S3.trans (T4.right H3)))⟩
  by_cases hz : bb = 0
  · refine iT (by simp [hz]) ⟨_, rfl, ls_w1 H2.1, ?_⟩
    rw [add_mk]
    refine core _ ⟨x.st, nn⟩ (S2.trans ((set_head nn n1 H2.1).left H2)) (fun _ _ => rfl) ?_
    rw [eR]
    simp only [hz, if_true]
  · refine iF (by simp [hz]) ⟨_, rfl, _, ls_s H2.1, ?_⟩
    have tb := (g2.resolve_left hz).1
    refine setw_ok n2 n1 (th8 tb).1 H2.2.1 fun h3 T3 => ⟨_, rfl, ?_⟩
    refine core _ ⟨x.st.wr c bb nn, x.hd⟩ (S2.trans (T3.right H2)) (fun _ _ => rfl) ?_
    rw [eR]
    simp only [hz, if_false]

theorem links_Pop_ok (H : (lwR s l c Z x).P h)
    (hK : ∀ h', Stp h h' (lwR s l c Z x) (lwR s l c Z (popU c x).1) → K (.tuple #[.int .u64 (popU c x).2.1, .int .i64 (popU c x).2.2]) h') : CallV Tryd.prog w₀ F.links_List_Pop [.pointer (some ⟨l, 0, none⟩)] h K := by
  refine links_List_Pop.call ?_
  unfold links_List_Pop.vc
  refine ⟨_, rfl, _, ls_h1 H.1, ?_⟩
  by_cases hz : x.hd = 0
  · have e : popU c x = (x, 0, 9) := by simp [popU, hz]
    rw [e] at hK
    exact iT (by simp [hz]) (hK h (Stp.refl H))
  refine iF (by simp [hz]) (links_Remove_ok H.1.1 H fun h1 S1 => ⟨_, rfl, ?_⟩)
  by_cases he : (removeU c x x.hd).2 = 0
  · have e : popU c x = ((removeU c x x.hd).1, x.hd, 0) := by simp [popU, hz, he]
    rw [e] at hK
    exact iF (eq_b he) (hK h1 S1)
  · have e : popU c x = ((removeU c x x.hd).1, 0, (removeU c x x.hd).2) := by simp [popU, hz, he]
    rw [e] at hK
    exact iT (ne_b he) (hK h1 S1)

theorem links_New_ok {hd : Int} (hu : U64 hd) (hK : ∀ (h' : Heap), New h h' (lsR s h.size hd) → K (.pointer (some ⟨h.size, 0, none⟩)) h') :
    CallV Tryd.prog w₀ F.links_New [.pointer (some ⟨s, 0, none⟩), .int .u64 hd] h K := by
  refine links_New.call ?_
  unfold links_New.vc
  refine hK _ ?_
  exact ⟨push_upd _ _ _, ⟨hu, (Blk.new h _ _).congr fun j hj => by
    have hj : j < 2 := hj
    rcases Nat.lt_or_ge j 1 with h1 | h1
    · have : j = 0 := by omega
      subst this; rfl
    · have : j = 1 := by omega
      subst this; rfl⟩, fun b e => Nat.le_of_eq (Eq.symm e)⟩

end
end Go.Proofs.YteemmpkhdllapaaDoor

/- links: room, and a range over a list, whatever its rounds do. No condition. -/
set_option linter.unusedSimpArgs false
set_option linter.unusedVariables false
namespace Go.Proofs.YteemmpkhdllapaaDoor
open Go.V Classical

section
variable {w₀ : World} {h : Heap} {s l : Nat} {c : Cfg} {Z : Nat → Prop} {st : Sto} {hd : Int} {K : Value → Heap → Prop}

def roomU (c : Cfg) (st : Sto) : Nat := st.n * c.size / 16

end
end Go.Proofs.YteemmpkhdllapaaDoor

/- links: a range over a list, whatever its rounds do. No condition. -/
set_option linter.unusedSimpArgs false
set_option linter.unusedVariables false
namespace Go.Proofs.YteemmpkhdllapaaDoor
open Go.V Classical

end Go.Proofs.YteemmpkhdllapaaDoor

/- croftlaw3: all, same, word, small. No condition. -/
set_option linter.unusedSimpArgs false
set_option linter.unusedVariables false
namespace Go.Proofs.YteemmpkhdllapaaDoor
open Go.V Classical

def walkL (c : Cfg) (st : Sto) : Nat → Int → Int → List Int
  | 0, _, _ => []
  | k + 1, p, b => bif (p == 0 || !st.th c p 16) || (lk2 st c p != b) then [] else p :: walkL c st k (lk1 st c p) p

def allL (c : Cfg) (x : LS) : List Int := walkL c x.st (roomU c x.st) x.hd 0

structure OutS where
  xs : List Int
  p : Option Addr
  cap : Nat

section
variable {w₀ : World} {h : Heap} {s l : Nat} {c : Cfg} {Z : Nat → Prop} {x : LS} {K : Value → Heap → Prop}

def S1 : Sto := ⟨1, fun _ => 0⟩

end
end Go.Proofs.YteemmpkhdllapaaDoor
