/- links: a list and the space beneath it, as plain states; what links, Push, Remove and Pop do. No condition. -/
import Derived.Test.YtfijahblggnbbaaK0
import Derived.Test.YtfijahblggnbbaaW6
set_option linter.unusedSimpArgs false
set_option linter.unusedVariables false
namespace Go.Proofs.Ytfijahblggnbbaa
open Go.V Classical

/-- A space's state: how many regions, its bytes. -/
structure Sto where
  n : Nat
  M : Nat → Int

def Sto.th (st : Sto) (c : Cfg) (p q : Int) : Bool := (q == 0) || (decide (c.base ≤ p) && decide (p - c.base + q ≤ ((st.n * c.size : Nat) : Int)))
def Sto.rd (st : Sto) (c : Cfg) (p : Int) : Int := wrd (fun i => st.M ((p - c.base).toNat + i)) 8
def Sto.wr (st : Sto) (c : Cfg) (p v : Int) : Sto := ⟨st.n, fun o => if (p - c.base).toNat ≤ o ∧ o < (p - c.base).toNat + 8 then byteOf v (o - (p - c.base).toNat) else st.M o⟩

@[simp] theorem wr_n (st : Sto) (c : Cfg) (p v : Int) : (st.wr c p v).n = st.n := rfl
@[simp] theorem wr_th (st : Sto) (c : Cfg) (p v a b : Int) : (st.wr c p v).th c a b = st.th c a b := rfl

theorem th_iff {st : Sto} {c : Cfg} {p q : Int} : st.th c p q = true ↔ There c st.n p q := by
  unfold Sto.th There
  simp [Bool.or_eq_true, Bool.and_eq_true, decide_eq_true_eq, beq_iff_eq]

theorem th_false {st : Sto} {c : Cfg} {p q : Int} : st.th c p q = false ↔ ¬ There c st.n p q := by
  rw [← th_iff]; cases st.th c p q <;> simp

abbrev U64 (p : Int) : Prop := 0 ≤ p ∧ p < 18446744073709551616

/-- A space in the heap. -/
def spR (s : Nat) (c : Cfg) (Z : Nat → Prop) (st : Sto) : Res := ⟨Z, fun h => Sp h s c st.n st.M Z, fun H hu hs => H.upd hu hs, fun H => H.lt⟩

def lsf (s : Nat) (hd : Int) : Nat → Value
  | 0 => .pointer (some ⟨s, 0, none⟩)
  | _ => .int .u64 hd

/-- A list in the heap. -/
def lsR (s : Nat) (l : Nat) (hd : Int) : Res := factR (U64 hd) (blkR l 2 (lsf s hd))

section
variable {w₀ : World} {h : Heap} {s l : Nat} {c : Cfg} {Z : Nat → Prop} {st : Sto} {hd : Int} {K : Value → Heap → Prop}

theorem ls_s (L : (lsR s l hd).P h) : cellAt h ⟨l, 0, none⟩ = some (.pointer (some ⟨s, 0, none⟩)) := L.2.cell (i := 0) (by omega)
theorem ls_h (L : (lsR s l hd).P h) : cellAt h ⟨l, 1, none⟩ = some (.int .u64 hd) := L.2.cell (i := 1) (by omega)
theorem ls_w (L : (lsR s l hd).P h) : Wr h ⟨l, 1, none⟩ := L.2.wr (i := 1) (by omega)

theorem sp_end (H : (spR s c Z st).P h) : c.base + ((st.n * c.size : Nat) : Int) ≤ 9223372036854775808 ∧ 0 < c.base := ⟨(H.good.len H.nl).2, H.good.b0⟩

theorem th_lt (H : (spR s c Z st).P h) {p q : Int} (t : st.th c p q = true) (hq : 0 < q) : c.base ≤ p ∧ p + q ≤ 9223372036854775808 ∧ p - c.base + q ≤ ((st.n * c.size : Nat) : Int) := by
  have := sp_end H
  rcases th_iff.1 t with e | ⟨e1, e2⟩
  · omega
  · omega

theorem th_16 {st : Sto} {c : Cfg} {p : Int} : st.th c p 16 = (st.th c p 8 && st.th c (p + 8) 8) := by
  have h1 := th_iff (st := st) (c := c) (p := p) (q := 16)
  have h2 := th_iff (st := st) (c := c) (p := p) (q := 8)
  have h3 := th_iff (st := st) (c := c) (p := p + 8) (q := 8)
  unfold There at h1 h2 h3
  rw [Bool.eq_iff_iff, Bool.and_eq_true, h1, h2, h3]
  generalize st.n * c.size = x
  omega

theorem rd_U64 (H : (spR s c Z st).P h) {p : Int} (t : st.th c p 8 = true) : U64 (st.rd c p) := by
  have h1 := th_lt H t (by omega)
  have := wrd_lt (k := 8) (f := fun i => st.M ((p - c.base).toNat + i)) fun i hi => H.by8 _ (by omega)
  exact ⟨this.1, this.2⟩

def lk1 (st : Sto) (c : Cfg) (p : Int) : Int := if st.th c p 8 then st.rd c p else 0
def lk2 (st : Sto) (c : Cfg) (p : Int) : Int := if st.th c p 16 then st.rd c (p + 8) else 0

theorem wrap_add8 {p : Int} (h0 : 0 ≤ p) (h1 : p + 8 < 18446744073709551616) : IntKind.wrap .u64 (p + 8) = p + 8 := by
  rw [IntKind.wrap_u64, Int.emod_eq_of_lt (by omega) (by omega)]

theorem links_links_ok {p : Int} (hp : U64 p) (L : (lsR s l hd).P h) (H : (spR s c Z st).P h)
    (hK : ∀ h', Upd NoB h h' → K (.tuple #[.int .u64 (lk1 st c p), .int .u64 (lk2 st c p), .bool (st.th c p 16)]) h') :
    CallV Try.prog w₀ F.links_List_links [.pointer (some ⟨l, 0, none⟩), .int .u64 p] h K := by
  refine links_List_links.call ?_
  unfold links_List_links.vc
  refine ⟨_, rfl, _, ls_s L, ?_⟩
  refine mem_Word_ok hp H (fun t h1 u1 => ?_) (fun t h1 u1 => ?_)
  · have t := th_iff.2 t
    have L1 := (lsR s l hd).st L u1 fun _ _ => id
    have H1 := (spR s c Z st).st H u1 fun _ _ => id
    have hlt := th_lt H t (by omega)
    have h0 := (sp_end H).2
    refine ⟨_, _, rfl, iF rfl ⟨_, rfl, _, ls_s L1, ?_⟩⟩
    rw [wrap_add8 hp.1 (by omega)]
    refine mem_Word_ok (by omega) H1 (fun t2 h2 u2 => ?_) (fun t2 h2 u2 => ?_)
    · have t2 := th_iff.2 t2
      refine ⟨_, _, rfl, fun J hJ => qT rfl (hJ _ _ ?_)⟩
      have := hK h2 (u1.nx u2 fun _ e _ => e)
      have e : st.th c p 16 = true := by rw [th_16, t, t2]; rfl
      have e2 : decide (p + 8 > p) = true := decide_eq_true (by omega)
      rw [e2]
      simp only [lk1, lk2, t, e, if_true] at this
      exact this
    · have t2 := th_false.2 t2
      refine ⟨_, _, rfl, fun J hJ => qF' rfl (hJ _ _ ?_)⟩
      have := hK h2 (u1.nx u2 fun _ e _ => e)
      have e : st.th c p 16 = false := by rw [th_16, t, t2]; rfl
      simp only [lk1, lk2, t, e, if_true, Bool.false_eq_true, if_false] at this
      exact this
  · have t := th_false.2 t
    refine ⟨_, _, rfl, iT rfl ?_⟩
    have := hK h1 u1
    have e : st.th c p 16 = false := by rw [th_16, t]; rfl
    simp only [lk1, lk2, t, e, Bool.false_eq_true, if_false] at this
    exact this

/-- A word that is there is set. -/
theorem setw_ok {p v : Int} (hp : U64 p) (hv : U64 v) (t : st.th c p 8 = true) (H : (spR s c Z st).P h)
    (hK : ∀ h', Stp h h' (spR s c Z st) (spR s c Z (st.wr c p v)) → K (.int .i64 0) h') : CallV Try.prog w₀ F.mem_Space_SetWord [.pointer (some ⟨s, 0, none⟩), .int .u64 p, .int .u64 v] h K :=
  mem_SetWord_ok hp hv H (fun _ h' u H' => hK h' ⟨u, H', fun _ e => .inl e⟩) (fun t' => absurd (th_iff.1 t) t')

/-- The state of a list and its space. -/
structure LS where
  st : Sto
  hd : Int

/-- Both in the heap. -/
abbrev lwR (s l : Nat) (c : Cfg) (Z : Nat → Prop) (x : LS) : Res := andR (lsR s l x.hd) (spR s c Z x.st)

def pushU (c : Cfg) (x : LS) (p : Int) : LS × Int :=
  if x.st.th c p 16 = false then (x, 4)
  else if x.hd ≠ 0 ∧ (x.st.th c x.hd 16 = false ∨ x.st.rd c (x.hd + 8) ≠ 0) then (x, 8)
  else (⟨(if x.hd ≠ 0 then ((x.st.wr c p x.hd).wr c (p + 8) 0).wr c (x.hd + 8) p else (x.st.wr c p x.hd).wr c (p + 8) 0), p⟩, 0)

theorem set_head (hd' : Int) (hu : U64 hd') (L : (lsR s l hd).P h) : Stp h (setC h ⟨l, 1, none⟩ (.int .u64 hd')) (lsR s l hd) (lsR s l hd') := by
  have S := Stp.set L.2 1 (.int .u64 hd') (g := lsf s hd') fun j hj => by
    rcases Nat.lt_or_ge j 1 with h1 | h1
    · have : j = 0 := by omega
      subst this; rfl
    · have : j = 1 := by omega
      subst this; rfl
  exact ⟨S.u, ⟨hu, S.p⟩, S.g⟩

end
end Go.Proofs.Ytfijahblggnbbaa
