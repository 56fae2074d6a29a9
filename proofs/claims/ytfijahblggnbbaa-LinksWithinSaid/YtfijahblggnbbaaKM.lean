/- croftlaw3: ranged. No condition. -/
import Derived.Test.YtfijahblggnbbaaKL
set_option linter.unusedSimpArgs false
set_option linter.unusedVariables false
set_option maxHeartbeats 2000000
namespace Go.Proofs.Ytfijahblggnbbaa
open Go.V Classical

/-- Steps that lie outside. -/
def stsR (p : Option Addr) (n : Nat) (f : Nat → St4) : Res := ⟨fun b => 0 < n ∧ ∃ o, p = some ⟨b, o, none⟩, fun h => n = 0 ∨ ∃ b off, p = some ⟨b, off, none⟩ ∧ ∀ i, i < n → ∀ j, j < 4 → cellAt h ⟨b, off + i * 4 + j, none⟩ = some ((f i).f j),
  fun {h h' S} H hu hs => by
    rcases H with H | ⟨b, off, rfl, H⟩
    · exact .inl H
    · rcases Nat.eq_zero_or_pos n with h0 | h0
      · exact .inl h0
      · exact .inr ⟨b, off, rfl, fun i hi j hj => cellAt_upd (H i hi j hj) hu (show ¬ S b from hs b ⟨h0, off, rfl⟩)⟩,
  fun {h} H b e => by
    rcases H with H | ⟨b', off, rfl, H⟩
    · omega
    · obtain ⟨h0, o, e⟩ := e
      cases e
      obtain ⟨c, T, f', hb, _, _⟩ := cellAt_block (h := h) (a := ⟨b, off + 0 * 4 + 0, none⟩) (by rw [H 0 h0 0 (by omega)]; rfl)
      exact (Array.getElem?_eq_some_iff.1 hb).1⟩

theorem sts_at {h : Heap} {p : Option Addr} {n : Nat} {f : Nat → St4} (H : (stsR p n f).P h) {i : Nat} (hi : i < n) : ∃ a : Addr, p = some a ∧ ∀ j : Int, j = ((i : Nat) : Int) →
    cellAt h (a.add (Int.toNat j * 4)) = some (.int .i64 (f i).op) ∧ cellAt h ((a.add (Int.toNat j * 4)).add 1) = some (.int .i64 (f i).li) ∧ cellAt h ((a.add (Int.toNat j * 4)).add 2) = some (.int .u64 (f i).p) ∧ cellAt h ((a.add (Int.toNat j * 4)).add 3) = some (.int .u64 (f i).v) := by
  rcases H with H | ⟨b, off, rfl, H⟩
  · omega
  · refine ⟨_, rfl, fun j hj => ?_⟩
    subst hj
    simp only [add_mk, Int.toNat_natCast]
    exact ⟨H i hi 0 (by omega), H i hi 1 (by omega), H i hi 2 (by omega), H i hi 3 (by omega)⟩

theorem sts_of {h h' : Heap} {p : Option Addr} {n : Nat} {f : Nat → St4} (H : n = 0 ∨ ∃ b off, p = some ⟨b, off, none⟩ ∧ ∀ i, i < n → ∀ j, j < 4 → cellAt h ⟨b, off + i * 4 + j, none⟩ = some ((f i).f j)) {R : Res} (N : New h h' R) :
    (andR R (stsR p n f)).P h' := by
  have H0 : (stsR p n f).P h := H
  refine ⟨N.p, (stsR p n f).st H0 N.u fun _ _ => id, fun b e e' => ?_⟩
  have := (stsR p n f).lt H0 b e'
  have := N.g b e
  omega

/-- Is the range left in this round? -/
def leaves (f : Nat → St4) (n : Nat) (x : RS) : Bool := decide (x.k < n) && ((f x.k).op == 9)

/-- What a round does. -/
def rnx (R : RW) (f : Nat → St4) (x : RS × Bool) (p : Int) (y : RS × Bool) : Prop :=
  y.1.w = ⟨lk1 x.1.σ.st R.W.c p, p, x.1.w.left - 1⟩ ∧ (bif leaves f R.n x.1 then y.1.left = true ∧ y.2 = true else y.1.k = x.1.k + 1 ∧ y.1.left = false ∧ y.2 = false)

/-- Between rounds. -/
def rok (k : Nat) (p b : Int) (x : RS × Bool) : Prop := x.1.w = ⟨p, b, ((k : Nat) : Int)⟩ ∧ x.1.left = false ∧ x.2 = false ∧ x.1.k + k ≤ 4194304

theorem a3_get {b : Nat} : ((⟨b, 0, none⟩ : Addr).add (Int.toNat (0 : Int) * 1)) = ⟨b, 0, none⟩ := rfl

section
variable {w₀ : World}

theorem ref3_Go_n {h : Heap} {c : Cfg} {mp : Option Addr} {mc m : Nat} {Y : Nat → Prop} {st : Sto} {K : Value → Heap → Prop} {w : Wk} (e : st.n = m) (hp : U64 w.p) (hl : 0 ≤ w.left ∧ w.left < 9223372036854775808) (H : (rsR c mp mc Y st).P h)
    (hK : ∀ h', Upd NoB h h' → K (.tuple #[wkv (goU c st w).1, .int .u64 (goU c st w).2.1, .bool (goU c st w).2.2]) h') : CallV Try.prog w₀ F.croftref3_Go [rsv c m mp mc, wkv w] h K := by
  subst e; exact ref3_Go_ok hp hl H hK

theorem there8_n {h : Heap} {c : Cfg} {mp : Option Addr} {mc m : Nat} {Y : Nat → Prop} {st : Sto} {K : Value → Heap → Prop} {p : Int} (e : st.n = m) (hp : U64 p) (H : (rsR c mp mc Y st).P h) (hK : ∀ h', Upd NoB h h' → K (.bool (st.th c p 8)) h') :
    CallV Try.prog w₀ F.croftref2_There [rsv c m mp mc, .int .u64 p, .int .u64 8] h K := by
  subst e
  refine ref2_There_ok hp (by omega) H fun h' u => ?_
  have e : decide (There c st.n p 8) = st.th c p 8 := by rw [Bool.eq_iff_iff, decide_eq_true_eq, th_iff]
  rw [e]; exact hK h' u

theorem setw_n {h : Heap} {c : Cfg} {mp : Option Addr} {mc m : Nat} {Y : Nat → Prop} {st : Sto} {K : Value → Heap → Prop} {p v : Int} (e : st.n = m) (hv : U64 v) (t : st.th c p 8 = true) (H : (rsR c mp mc Y st).P h)
    (hK : ∀ h', Stp h h' (rsR c mp mc Y st) (rsR c mp mc Y (st.wr c p v)) → K (.tuple #[]) h') : CallV Try.prog w₀ F.croftref2_SetWord [rsv c m mp mc, .int .u64 p, .int .u64 v] h K := by
  subst e; exact ref_setw_ok hv t H hK

theorem step_n {h : Heap} {W : PW} {σ : PS} {K : Value → Heap → Prop} {op li p v : Int} {m : Nat} (e : σ.st.n = m) (hp : U64 p) (hv : U64 v) (H : (psR W σ).P h)
    (hK : ∀ σ' h', σ'.st.n = σ.st.n → (op ≠ 6 ∨ kU li ≠ 0 → σ'.lb 0 = σ.lb 0) → Stp h h' (psR W σ) (psR W σ') → K (.bool true) h') :
    CallV Try.prog w₀ F.croftlaw3_step [.pointer (some ⟨W.s, 0, none⟩), rsv W.c m W.mp W.mc, .pointer (some ⟨W.bm, 0, none⟩), .pointer (some ⟨W.bh, 0, none⟩), .agg #[.int .i64 op, .int .i64 li, .int .u64 p, .int .u64 v]] h K := by
  subst e; exact step_ok hp hv H hK

theorem ranged_ok {W : PW} {σ : PS} {cb n cp : Nat} {p5 : Option Addr} {f : Nat → St4} {h : Heap} {K : Value → Heap → Prop}
    (hu : ∀ i, i < n → U64 (f i).p ∧ U64 (f i).v) (hn : n < 9223372036854775808) (H : (andR (andR (psR W σ) (cell1 cb (.pointer (some ⟨σ.lb 0, 0, none⟩)))) (stsR p5 n f)).P h)
    (hK : ∀ σ' h', σ'.st.n = σ.st.n → σ'.lb 0 = σ.lb 0 → Stp h h' (andR (psR W σ) (cell1 cb (.pointer (some ⟨σ.lb 0, 0, none⟩)))) (andR (psR W σ') (cell1 cb (.pointer (some ⟨σ'.lb 0, 0, none⟩)))) → K (.bool true) h') :
    CallV Try.prog w₀ F.croftlaw3_ranged [.pointer (some ⟨W.s, 0, none⟩), rsv W.c σ.st.n W.mp W.mc, .func (.func F.links_List_All_1) #[] #[.pointer (some ⟨cb, 0, none⟩)], .pointer (some ⟨W.bm, 0, none⟩), .pointer (some ⟨W.bh, 0, none⟩), .slice p5 n cp] h K := by
  refine croftlaw3_ranged.call ?_
  unfold croftlaw3_ranged.vc
  -- the parameters
  have N6 := cell1_new h (.pointer (some ⟨W.s, 0, none⟩)) T.T_p_mem_Space
  obtain ⟨b6, e6⟩ : ∃ b, b = h.size := ⟨_, rfl⟩
  rw [← e6] at N6 ⊢
  generalize hh6 : Array.push h (.cells #[.pointer (some ⟨W.s, 0, none⟩)] T.T_p_mem_Space) = h6 at N6 ⊢
  have N7 := box4c h6 (.int .u64 W.c.base) (.int .u64 (W.c.size : Int)) (.int .i64 W.c.limit) (.slice W.mp (σ.st.n * W.c.size) W.mc) T.T_croftref2_Space
  obtain ⟨b7, e7⟩ : ∃ b, b = h6.size := ⟨_, rfl⟩
  rw [← e7] at N7 ⊢
  generalize hh7 : Array.push h6 (.cells #[.int .u64 W.c.base, .int .u64 (W.c.size : Int), .int .i64 W.c.limit, .slice W.mp (σ.st.n * W.c.size) W.mc] T.T_croftref2_Space) = h7 at N7 ⊢
  have N9 := cell1_new h7 (.pointer (some ⟨W.bm, 0, none⟩)) T.T_p_arr3_p_links_List
  obtain ⟨b9, e9⟩ : ∃ b, b = h7.size := ⟨_, rfl⟩
  rw [← e9] at N9 ⊢
  generalize hh9 : Array.push h7 (.cells #[.pointer (some ⟨W.bm, 0, none⟩)] T.T_p_arr3_p_links_List) = h9 at N9 ⊢
  have N10 := cell1_new h9 (.pointer (some ⟨W.bh, 0, none⟩)) T.T_p_arr3_uint64
  obtain ⟨b10, e10⟩ : ∃ b, b = h9.size := ⟨_, rfl⟩
  rw [← e10] at N10 ⊢
  generalize hh10 : Array.push h9 (.cells #[.pointer (some ⟨W.bh, 0, none⟩)] T.T_p_arr3_uint64) = h10 at N10 ⊢
  have N11 := cell1_new h10 (.slice p5 n cp) T.T_sl_croftlaw3_Step
  obtain ⟨b11, e11⟩ : ∃ b, b = h10.size := ⟨_, rfl⟩
  rw [← e11] at N11 ⊢
  generalize hh11 : Array.push h10 (.cells #[.slice p5 n cp] T.T_sl_croftlaw3_Step) = h11 at N11 ⊢
  have N12 := cell1_new h11 (.bool false) T.T_bool
  obtain ⟨b12, e12⟩ : ∃ b, b = h11.size := ⟨_, rfl⟩
  rw [← e12] at N12 ⊢
  generalize hh12 : Array.push h11 (.cells #[.bool false] T.T_bool) = h12 at N12 ⊢
  have NI := N6.and (N7.and (N9.and (N10.and N11)))
  have S12 : Stp h h12 (psR W σ) (andR (psR W σ) (andR (andR (cell1 b6 (.pointer (some ⟨W.s, 0, none⟩))) (andR (blkR b7 4 (dF W.c σ.st.n W.mp W.mc)) (andR (cell1 b9 (.pointer (some ⟨W.bm, 0, none⟩))) (andR (cell1 b10 (.pointer (some ⟨W.bh, 0, none⟩))) (cell1 b11 (.slice p5 n cp)))))) (cell1 b12 (.bool false)))) :=
    Stp.new H.1.1 (NI.and N12)
  have P12 := S12.p
  intro J7 hJ7
  obtain ⟨d0, d1, d2, d3⟩ := f4_cells P12.2.1.1.2.1.1
  refine ⟨_, d0, _, d1, _, d2, _, _, _, d3, _, cell1_get P12.2.1.1.2.1.2.1.2.1.1, _, rfl, by omega, by omega, _, q_head P12.1 (k := 0) (by omega), ?_⟩
  have hq0 : U64 (σ.hd 0) := q_hu P12.1 (k := 0) (by omega)
  have hroom : roomU W.c σ.st ≤ 4194304 := by
    have := (P12.1.1.2.1.good.len P12.1.1.2.1.nl).1
    exact Nat.le_trans (Nat.div_le_self _ _) this
  -- behind the beginning
  have core : ∀ (b13 : Nat) (h13 : Heap), Stp h h13 (psR W σ) (andR (psR W σ) (andR (andR (andR (cell1 b6 (.pointer (some ⟨W.s, 0, none⟩))) (andR (blkR b7 4 (dF W.c σ.st.n W.mp W.mc)) (andR (cell1 b9 (.pointer (some ⟨W.bm, 0, none⟩))) (andR (cell1 b10 (.pointer (some ⟨W.bh, 0, none⟩))) (cell1 b11 (.slice p5 n cp)))))) (cell1 b12 (.bool false))) (blkR b13 3 (f3 (.int .u64 (σ.hd 0)) (.int .u64 0) (.int .i64 ((roomU W.c σ.st : Nat) : Int)))))) →
      J7 [.func (.func F.links_List_All_1) #[] #[.pointer (some ⟨cb, 0, none⟩)], .pointer (some ⟨b6, 0, none⟩), .pointer (some ⟨b7, 0, none⟩), .pointer (some ⟨b9, 0, none⟩), .pointer (some ⟨b10, 0, none⟩), .pointer (some ⟨b11, 0, none⟩), .pointer (some ⟨b12, 0, none⟩), .pointer (some ⟨b13, 0, none⟩)] h13 := by
    intro b13 h13 S13
    refine hJ7 _ _ _ _ _ _ _ _ _ ?_
    obtain ⟨wk, Nk⟩ := cell1_var h13 (.int .i64 0) (.int .i64 0) T.T_int
    obtain ⟨bk, ek⟩ : ∃ b, b = h13.size := ⟨_, rfl⟩
    rw [← ek] at wk Nk ⊢
    generalize hhk' : Array.push h13 (.cells #[.int .i64 0] T.T_int) = hk' at wk Nk ⊢
    generalize hhk : setC hk' ⟨bk, 0, none⟩ (.int .i64 0) = hk at Nk ⊢
    obtain ⟨wo, No⟩ := cell1_var hk (.bool false) (.bool true) T.T_bool
    obtain ⟨bo, eo⟩ : ∃ b, b = hk.size := ⟨_, rfl⟩
    rw [← eo] at wo No ⊢
    generalize hho' : Array.push hk (.cells #[.bool false] T.T_bool) = ho' at wo No ⊢
    generalize hho : setC ho' ⟨bo, 0, none⟩ (.bool true) = ho at No ⊢
    obtain ⟨wl, Nl⟩ := cell1_var ho (.bool false) (.bool false) T.T_bool
    obtain ⟨bl, el⟩ : ∃ b, b = ho.size := ⟨_, rfl⟩
    rw [← el] at wl Nl ⊢
    generalize hhl' : Array.push ho (.cells #[.bool false] T.T_bool) = hl' at wl Nl ⊢
    generalize hhl : setC hl' ⟨bl, 0, none⟩ (.bool false) = hl at Nl ⊢
    refine ⟨wk, wo, wl, fun rec hrec hround => CallG_func (by kernel_rfl) (CallV.toR ?_)⟩
    let R : RW := ⟨W, σ.st.n, σ.lb 0, cb, b6, b7, b9, b10, b11, b12, b13, bk, bo, bl, p5, n, cp⟩
    have S0 : Stp h hl (psR W σ) (mR R ⟨σ, ⟨σ.hd 0, 0, ((roomU W.c σ.st : Nat) : Int)⟩, 0, false⟩) := by
      have S1 := S13.trans (Stp.new S13.p (Nk.and (No.and Nl)))
      refine ⟨S1.u, ⟨⟨rfl, rfl, hq0, by show (0 : Int) ≤ ((roomU W.c σ.st : Nat) : Int); omega, by show ((roomU W.c σ.st : Nat) : Int) < _; omega⟩, ?_⟩, fun b e => S1.g b ?_⟩
      · have P := S1.p
        refine ⟨P.1.1, ⟨P.1.2.1.1.1, ⟨P.1.2.1.2.1, ⟨P.2.1.1, ⟨P.2.1.2.1.1, ⟨P.2.1.2.1.2.1, P.1.2.1.1.2.1, fun b e e' => P.2.2 b (.inr (.inl (.inr e'))) (.inr (.inr e))⟩, fun b e e' => ?_⟩, fun b e e' => ?_⟩, fun b e e' => ?_⟩, fun b e e' => ?_⟩, fun b e e' => ?_⟩
        · rcases e' with e' | e'
          · exact P.2.1.2.1.2.2 b e e'
          · exact P.2.2 b (.inr (.inl (.inr e'))) (.inr (.inl e))
        · rcases e' with e' | e' | e'
          · exact P.2.1.2.2 b e (.inl e')
          · exact P.2.1.2.2 b e (.inr e')
          · exact P.2.2 b (.inr (.inl (.inr e'))) (.inl e)
        · rcases e' with e' | e' | e' | e'
          · exact P.2.2 b (.inr (.inr e)) (.inl e')
          · exact P.2.2 b (.inr (.inr e)) (.inr (.inl e'))
          · exact P.2.2 b (.inr (.inr e)) (.inr (.inr e'))
          · exact P.1.2.1.2.2 b (.inr e') e
        · rcases e' with e' | e' | e' | e' | e'
          · exact P.1.2.1.2.2 b (.inl e) e'
          · exact P.2.2 b (.inr (.inl (.inl e))) (.inl e')
          · exact P.2.2 b (.inr (.inl (.inl e))) (.inr (.inl e'))
          · exact P.2.2 b (.inr (.inl (.inl e))) (.inr (.inr e'))
          · exact P.1.2.1.1.2.2 b e e'
        · rcases e' with e' | e' | e' | e' | e' | e'
          · exact P.1.2.2 b e (.inl (.inl e'))
          · exact P.1.2.2 b e (.inr e')
          · exact P.2.2 b (.inl e) (.inl e')
          · exact P.2.2 b (.inl e) (.inr (.inl e'))
          · exact P.2.2 b (.inl e) (.inr (.inr e'))
          · exact P.1.2.2 b e (.inl (.inr e'))
      · rcases e with e | e | e | e | e | e | e
        · exact .inl (.inl e)
        · exact .inl (.inr (.inl (.inl e)))
        · exact .inl (.inr (.inr e))
        · exact .inr (.inl e)
        · exact .inr (.inr (.inl e))
        · exact .inr (.inr (.inr e))
        · exact .inl (.inr (.inl (.inr e)))
    have PE : (andR (mR R ⟨σ, ⟨σ.hd 0, 0, ((roomU W.c σ.st : Nat) : Int)⟩, 0, false⟩) (andR (cell1 cb (.pointer (some ⟨σ.lb 0, 0, none⟩))) (stsR p5 n f))).P hl :=
      (S0.left (B := andR (cell1 cb (.pointer (some ⟨σ.lb 0, 0, none⟩))) (stsR p5 n f)) ⟨H.1.1, ⟨H.1.2.1, H.2.1, fun b e e' => H.2.2 b (.inr e) e'⟩, fun b e e' => e'.elim (fun e' => H.1.2.2 b e e') fun e' => H.2.2 b (.inl e) e'⟩).p
    have hr := rec_noC hrec .ready none
    let stt : Bool → Obj := fun e => if e then rec .done (some (.exit 0)) else rec .ready none
    have hst : ∀ e, noC (stt e) := fun e => by cases e <;> exact rec_noC hrec _ _
    have hfw : ∀ (σ1 : PS) (p : Int), σ1.st.th R.W.c p 16 = true → lk1 σ1.st R.W.c p = σ1.st.rd R.W.c p := fun σ1 p t => by simp [lk1, (th8 t).1]
    have stay : ∀ (k : Nat) (p b : Int) (x y : RS × Bool), rok (k + 1) p b x → (!leaves f R.n x.1) = true → rnx R f x p y → rok k (fwU R.W.c (fun x : RS × Bool => ⟨x.1.σ.st, x.1.σ.hd 0⟩) x p) p y := by
      rintro k p b ⟨x, e⟩ ⟨y, e'⟩ ⟨hw, hlf, he, hkk⟩ hg ⟨hy, hx⟩
      have hg : leaves f R.n x = false := by simpa using hg
      have hx : (bif leaves f R.n x then y.left = true ∧ e' = true else y.k = x.k + 1 ∧ y.left = false ∧ e' = false) := hx
      rw [hg] at hx
      obtain ⟨h1, h2, h3⟩ := hx
      have hkk : x.k + (k + 1) ≤ 4194304 := hkk
      have hw : x.w = ⟨p, b, ((k + 1 : Nat) : Int)⟩ := hw
      refine ⟨?_, h2, h3, ?_⟩
      · show y.w = _
        have hy : y.w = ⟨lk1 x.σ.st R.W.c p, p, x.w.left - 1⟩ := hy
        rw [hy, hw]
        show (⟨_, _, ((k + 1 : Nat) : Int) - 1⟩ : Wk) = ⟨_, _, ((k : Nat) : Int)⟩
        rw [show ((k + 1 : Nat) : Int) - 1 = ((k : Nat) : Int) by omega]
        rfl
      · show y.k + k ≤ 4194304
        omega
    have Y : Yd Try.prog w₀ (.func (.yield (hl.size + 1)) #[] #[]) (fun x : RS × Bool => andR (objR (hl.size + 1) (stt x.2)) (mR R x.1)) (stsR p5 n f) rok
        (gdU R.W.c fun x : RS × Bool => ⟨x.1.σ.st, x.1.σ.hd 0⟩) (fwU R.W.c fun x : RS × Bool => ⟨x.1.σ.st, x.1.σ.hd 0⟩) (rnx R f) (fun x _ => !leaves f R.n x.1) := by
      refine ⟨?_, rfl, ?_⟩
      · rintro k p b ⟨⟨σ1, w1, k1, l1⟩, e⟩ hB ⟨hw, hlf, he, hkk⟩ hgd hp HB
        have hw : w1 = ⟨p, b, ((k + 1 : Nat) : Int)⟩ := hw
        have hlf : l1 = false := hlf
        have he : e = false := he
        have hkk : k1 + (k + 1) ≤ 4194304 := hkk
        subst hw hlf he
        have hgd : ((p == 0 || !σ1.st.th R.W.c p 16) || (lk2 σ1.st R.W.c p != b)) = false := hgd
        simp only [Bool.or_eq_false_iff, Bool.not_eq_false', beq_eq_false_iff_ne] at hgd
        obtain ⟨⟨hz, t16⟩, hb⟩ := hgd
        have hbb : σ1.st.rd R.W.c (p + 8) = b := by
          have : lk2 σ1.st R.W.c p = σ1.st.rd R.W.c (p + 8) := by simp [lk2, t16]
          rw [this] at hb
          simpa using hb
        obtain ⟨r1, r2, r3⟩ := round_out HB.1 hr (rec_noC hrec .busy none)
        have rE : (stsR p5 n f).P (setO hB (hl.size + 1) (rec .busy none)) := (stsR p5 n f).st HB.2.1 (setO_upd r1 hr (rec_noC hrec .busy none)) fun b e e' => HB.2.2 b (.inl e') e
        have rD : ∀ q, (mR R ⟨σ1, ⟨p, b, ((k + 1 : Nat) : Int)⟩, k1, false⟩).fp q → (stsR p5 n f).fp q → False := fun q e e' => HB.2.2 q (.inr e) e'
        obtain ⟨⟨F1, F2, F3⟩, P0⟩ := r2
        have F2 : σ1.st.n = σ.st.n := F2
        have F1 : σ1.lb 0 = σ.lb 0 := F1
        refine hround p hB _ rfl r1 ⟨r1, ?_⟩
        generalize setO hB (hl.size + 1) (rec .busy none) = hb at P0 rE r3 ⊢
        have PE0 : (andR (mgR R (psR W σ1) ⟨p, b, ((k + 1 : Nat) : Int)⟩ k1 false false) (stsR p5 n f)).P hb := ⟨P0, rE, rD⟩
        -- a look at the step in hand
        have look : ∀ (c : Int) (h3 : Heap) (w3 : Wk) (Q : Res) (J : Bool → Heap → Prop), (andR (mgR R Q w3 k1 false false) (stsR p5 n f)).P h3 → J (decide (k1 < n) && ((f k1).op == c)) h3 →
            ((decide (((k1 : Nat) : Int) < ((n : Nat) : Int))) = true → ∃ (n54p : Option Addr) (n54n n54c : Nat), cellAt h3 ⟨b11, 0, none⟩ = some (.slice n54p n54n n54c) ∧ ∃ n55 : Int, cellAt h3 ⟨bk, 0, none⟩ = some (.int .i64 n55) ∧
              ∃ a56 : Addr, n54p = some a56 ∧ 0 ≤ n55 ∧ n55 < ((n54n : Nat) : Int) ∧ ∃ n58 : Int, cellAt h3 (a56.add (Int.toNat n55 * 4)) = some (.int .i64 n58) ∧ J (n58 == c) h3) ∧ ((decide (((k1 : Nat) : Int) < ((n : Nat) : Int))) = (!true) → J false h3) := by
          intro c h3 w3 Q J P3 hJ
          by_cases hk1 : k1 < n
          · rw [decide_eq_true hk1, Bool.true_and] at hJ
            obtain ⟨a, ea, hcl⟩ := sts_at P3.2.1 hk1
            exact qT (decide_eq_true (Int.ofNat_lt.2 hk1)) ⟨_, _, _, mg_11 P3.1, _, mg_ck P3.1, a, ea, by omega, Int.ofNat_lt.2 hk1, _, (hcl _ rfl).1, hJ⟩
          · rw [decide_eq_false hk1, Bool.false_and] at hJ
            exact qF' (decide_eq_false (by omega)) hJ
        obtain ⟨a0, a1, a2, a3⟩ := mg_7 P0
        obtain ⟨c0, c1, c2⟩ := mg_13 P0
        refine ⟨_, a0, _, a1, _, a2, _, _, _, a3, _, c0, _, c1, _, c2, ?_⟩
        have ego : goU W.c σ1.st ⟨p, b, ((k + 1 : Nat) : Int)⟩ = (⟨σ1.st.rd W.c p, p, ((k + 1 : Nat) : Int) - 1⟩, p, true) := by
          unfold goU
          rw [if_neg]
          rintro (e | e | e | e)
          · have e : ((k + 1 : Nat) : Int) = 0 := e; omega
          · exact hz e
          · have e : σ1.st.th W.c p 16 = false := e
            rw [show σ1.st.th W.c p 16 = true from t16] at e; cases e
          · exact e hbb
        refine ref3_Go_n (st := σ1.st) (w := ⟨p, b, ((k + 1 : Nat) : Int)⟩) F2 hp (by show (0 : Int) ≤ ((k + 1 : Nat) : Int) ∧ ((k + 1 : Nat) : Int) < _; omega) P0.1.2.1.2.1 fun h1 u1 => ?_
        rw [ego]
        generalize hw' : (⟨σ1.st.rd W.c p, p, ((k + 1 : Nat) : Int) - 1⟩ : Wk) = w'
        obtain ⟨q2, N2⟩ := box3_ok h1 (.int .u64 0) (.int .u64 0) (.int .i64 0) (.int .u64 w'.p) (.int .u64 w'.b) (.int .i64 w'.left) T.T_croftref3_Walk
        obtain ⟨bw, ebw⟩ : ∃ b, b = h1.size := ⟨_, rfl⟩
        rw [← ebw] at q2 N2 ⊢
        refine ⟨_, _, _, _, _, rfl, q2, ?_⟩
        generalize setCs (Array.push h1 (.cells #[.int .u64 0, .int .u64 0, .int .i64 0] T.T_croftref3_Walk)) ⟨bw, 0, none⟩ 0 [.int .u64 w'.p, .int .u64 w'.b, .int .i64 w'.left] = h2 at N2 ⊢
        have S2 : Stp hb h2 (mgR R (psR W σ1) ⟨p, b, ((k + 1 : Nat) : Int)⟩ k1 false false) (mgR R (psR W σ1) ⟨p, b, ((k + 1 : Nat) : Int)⟩ k1 false false) := Stp.quiet P0 (u1.nx N2.u fun _ e _ => e)
        obtain ⟨g0, g1, g2⟩ := f3_cells N2.p
        obtain ⟨q3, T3⟩ := mg_w S2.p w'
        refine fun J18 hJ18 => pF rfl (hJ18 _ _ (iF (eq_b rfl) ⟨_, g0, _, g1, _, g2, q3, ?_⟩))
        have S3 := S2.trans T3
        generalize setCs h2 ⟨b13, 0, none⟩ 0 [.int .u64 w'.p, .int .u64 w'.b, .int .i64 w'.left] = h3 at S3 T3 ⊢
        clear T3 q3 g0 g1 g2
        have PE3 : (andR (mgR R (psR W σ1) w' k1 false false) (stsR p5 n f)).P h3 := (S3.left PE0).p
        have P3 := PE3.1
        have wp : U64 w'.p := by rw [← hw']; exact rd_U64 P0.1.1.2.1 (th8 t16).1
        have wl : 0 ≤ w'.left ∧ w'.left < 9223372036854775808 := by rw [← hw']; show (0 : Int) ≤ ((k + 1 : Nat) : Int) - 1 ∧ ((k + 1 : Nat) : Int) - 1 < _; omega
        have wx : w' = ⟨lk1 σ1.st R.W.c p, p, ((k + 1 : Nat) : Int) - 1⟩ := by rw [hfw σ1 p t16, ← hw']
        have close : ∀ (h4 : Heap) (y : RS), Stp hb h4 (mgR R (psR W σ1) ⟨p, b, ((k + 1 : Nat) : Int)⟩ k1 false false) (mgR R (psR W y.σ) y.w y.k y.left false) → y.σ.lb 0 = σ.lb 0 → y.σ.st.n = σ.st.n → y.w = w' →
            h4[hl.size + 1]? = some (rec .busy none) ∧ ∀ e', Stp hB (setO h4 (hl.size + 1) (stt e')) (andR (objR (hl.size + 1) (stt false)) (mR R ⟨σ1, ⟨p, b, ((k + 1 : Nat) : Int)⟩, k1, false⟩)) (andR (objR (hl.size + 1) (stt e')) (mR R y)) := by
          intro h4 y S e1 e2 e3
          obtain ⟨q1, q2⟩ := r3 h4 (mR R y) ⟨S.u, ⟨⟨e1, e2, by rw [e3]; exact wp, by rw [e3]; exact wl.1, by rw [e3]; exact wl.2⟩, S.p⟩, S.g⟩
          exact ⟨q1, fun e' => q2 (stt e') (hst e')⟩
        refine ⟨_, mg_ck P3, _, _, _, mg_11 P3, fun J21 hJ21 => look 9 h3 w' (psR W σ1) J21 PE3 ?_⟩
        cases hlv : (decide (k1 < n) && ((f k1).op == 9))
        case true =>
          refine hJ21 _ _ (iT rfl ⟨(mg_l P3 true).1, ?_⟩)
          obtain ⟨q1, q2⟩ := close _ ⟨σ1, w', k1, true⟩ (S3.trans (mg_l P3 true).2) F1 F2 rfl
          have hlv' : leaves f R.n ⟨σ1, ⟨p, b, ((k + 1 : Nat) : Int)⟩, k1, false⟩ = true := hlv
          exact ⟨q1, by rw [hlv']; rfl, (⟨σ1, w', k1, true⟩, true), ⟨wx, by rw [hlv']; exact ⟨rfl, rfl⟩⟩, q2 true⟩
        have hlv' : leaves f R.n ⟨σ1, ⟨p, b, ((k + 1 : Nat) : Int)⟩, k1, false⟩ = false := hlv
        refine hJ21 _ _ (iF rfl fun J23 hJ23 => ?_)
        have fin23 : ∀ (h4 : Heap) (σ' : PS), Stp hb h4 (mgR R (psR W σ1) ⟨p, b, ((k + 1 : Nat) : Int)⟩ k1 false false) (mgR R (psR W σ') w' k1 false false) → σ'.lb 0 = σ.lb 0 → σ'.st.n = σ.st.n →
            J23 [.pointer (some ⟨b12, 0, none⟩), .pointer (some ⟨bk, 0, none⟩), .pointer (some ⟨bo, 0, none⟩)] h4 := by
          intro h4 σ' S4 e1 e2
          have P4 := S4.p
          refine hJ23 _ _ _ _ ⟨_, mg_co P4, iF rfl ⟨_, mg_ck P4, (mg_k P4 (k1 + 1)).1, ?_⟩⟩
          have ew : IntKind.wrap .i64 (((k1 : Nat) : Int) + 1) = ((k1 + 1 : Nat) : Int) := by rw [IntWalk.i64_in _ (by omega)]; omega
          rw [ew]
          obtain ⟨q1, q2⟩ := close _ ⟨σ', w', k1 + 1, false⟩ (S4.trans (mg_k P4 (k1 + 1)).2) e1 e2 rfl
          exact ⟨q1, by rw [hlv']; rfl, (⟨σ', w', k1 + 1, false⟩, false), ⟨wx, by rw [hlv']; exact ⟨rfl, rfl, rfl⟩⟩, q2 false⟩
        refine ⟨_, mg_ck P3, _, _, _, mg_11 P3, fun J26 hJ26 => look 8 h3 w' (psR W σ1) J26 PE3 (hJ26 _ _ fun J27 hJ27 => ?_)⟩
        -- the prev of what comes next
        have point27 : J27 true h3 := by
          refine hJ27 _ _ (iT rfl ⟨_, mg_6 P3, _, (mg_13 P3).1, ?_⟩)
          have hua : U64 (IntKind.wrap .u64 (w'.p + 8)) := by rw [IntKind.wrap_u64]; exact ⟨Int.emod_nonneg _ (by omega), Int.emod_lt_of_pos _ (by omega)⟩
          generalize hwa : IntKind.wrap .u64 (w'.p + 8) = a at hua
          cases t : σ1.st.th W.c a 8
          · refine mem_SetWord_ok hua hp P3.1.1.2.1 (fun t' => absurd (th_iff.2 t') (by rw [t]; simp)) fun _ h4 u4 => ⟨_, rfl, ?_⟩
            have S4 := S3.trans (Stp.quiet P3 u4)
            have P4 := S4.p
            obtain ⟨a0, a1, a2, a3⟩ := mg_7 P4
            refine ⟨_, a0, _, a1, _, a2, _, _, _, a3, _, (mg_13 P4).1, ?_⟩
            rw [hwa]
            refine there8_n (st := σ1.st) F2 hua P4.1.2.1.2.1 fun h5 u5 => ⟨_, rfl, ?_⟩
            rw [t]
            exact ⟨fun e => (by cases e), fun _ => fin23 h5 σ1 (S4.trans (Stp.quiet P4 u5)) F1 F2⟩
          · refine setw_ok hua hp t P3.1.1.2.1 fun h4 T4 => ⟨_, rfl, ?_⟩
            have S4 := S3.trans (mg_q P3 (q_sp P3.1 T4))
            have P4 := S4.p
            obtain ⟨a0, a1, a2, a3⟩ := mg_7 P4
            refine ⟨_, a0, _, a1, _, a2, _, _, _, a3, _, (mg_13 P4).1, ?_⟩
            rw [hwa]
            refine there8_n (st := σ1.st) F2 hua P4.1.2.1.2.1 fun h5 u5 => ⟨_, rfl, ?_⟩
            have S5 := S4.trans (Stp.quiet P4 u5)
            have P5 := S5.p
            rw [t]
            refine ⟨fun _ => ?_, fun e => by cases e⟩
            obtain ⟨a0, a1, a2, a3⟩ := mg_7 P5
            refine ⟨_, a0, _, a1, _, a2, _, _, _, a3, _, (mg_13 P5).1, ?_⟩
            rw [hwa]
            refine setw_n (st := σ1.st) F2 hp t P5.1.2.1.2.1 fun h6 T6 => ⟨rfl, ?_⟩
            have S6 := S5.trans (mg_q P5 (q_ref P5.1 T6))
            have P6 := S6.p
            refine ⟨_, mg_co P6, fun J31 hJ31 => qT rfl (hJ31 _ _ ⟨(mg_o P6).1, ?_⟩)⟩
            exact fin23 _ ⟨σ1.lb, σ1.hd, σ1.st.wr W.c a p⟩ (S6.trans (mg_o P6).2) F1 F2
        -- a step
        have step27 : J27 false h3 := by
          refine hJ27 _ _ (iF rfl ⟨_, mg_ck P3, _, _, _, mg_11 P3, ?_⟩)
          by_cases hk1 : k1 < n
          case neg => exact iF (decide_eq_false (by show ¬ ((k1 : Nat) : Int) < ((n : Nat) : Int); omega)) (fin23 h3 σ1 S3 F1 F2)
          obtain ⟨a, ea, hcl⟩ := sts_at PE3.2.1 hk1
          obtain ⟨z0, z1, z2, z3⟩ := hcl _ rfl
          obtain ⟨up, uv⟩ := hu k1 hk1
          obtain ⟨q4, N4⟩ := box4_ok h3 (.int .i64 0) (.int .i64 0) (.int .u64 0) (.int .u64 0) (.int .i64 (f k1).op) (.int .i64 (f k1).li) (.int .u64 (f k1).p) (.int .u64 (f k1).v) T.T_croftlaw3_Step
          refine iT (decide_eq_true (Int.ofNat_lt.2 hk1)) ⟨_, _, _, mg_11 P3, _, mg_ck P3, a, ea, by omega, Int.ofNat_lt.2 hk1, _, z0, _, z1, _, z2, _, z3, q4, ?_⟩
          obtain ⟨bx, ebx⟩ : ∃ b, b = h3.size := ⟨_, rfl⟩
          rw [← ebx] at N4 ⊢
          generalize setCs (Array.push h3 (.cells #[.int .i64 0, .int .i64 0, .int .u64 0, .int .u64 0] T.T_croftlaw3_Step)) ⟨bx, 0, none⟩ 0 [.int .i64 (f k1).op, .int .i64 (f k1).li, .int .u64 (f k1).p, .int .u64 (f k1).v] = h4 at N4 ⊢
          have S4 := S3.trans (Stp.new P3 N4)
          have P4 := S4.p
          intro J35 hJ35
          have run : ∀ (h5 : Heap) (op' : Int), Stp hb h5 (mgR R (psR W σ1) ⟨p, b, ((k + 1 : Nat) : Int)⟩ k1 false false) (andR (mgR R (psR W σ1) w' k1 false false) (blkR bx 4 (f4 (.int .i64 op') (.int .i64 (f k1).li) (.int .u64 (f k1).p) (.int .u64 (f k1).v)))) → (op' ≠ 6 ∨ kU (f k1).li ≠ 0) →
              J35 [.pointer (some ⟨b6, 0, none⟩), .pointer (some ⟨b7, 0, none⟩), .pointer (some ⟨b9, 0, none⟩), .pointer (some ⟨b10, 0, none⟩), .pointer (some ⟨b12, 0, none⟩), .pointer (some ⟨bk, 0, none⟩), .pointer (some ⟨bo, 0, none⟩), .pointer (some ⟨bx, 0, none⟩)] h5 := by
            intro h5 op' S5 hop
            have P5 := S5.p
            obtain ⟨a0, a1, a2, a3⟩ := mg_7 P5.1
            obtain ⟨y0, y1, y2, y3⟩ := f4_cells P5.2.1
            refine hJ35 _ _ _ _ _ _ _ _ _ ⟨_, mg_co P5.1, fun J36 hJ36 => qT rfl ⟨_, mg_6 P5.1, _, a0, _, a1, _, a2, _, _, _, a3, _, mg_9 P5.1, _, mg_10 P5.1, _, y0, _, y1, _, y2, _, y3, ?_⟩⟩
            refine step_n (σ := σ1) F2 up uv P5.1.1 fun σ' h6 e1 e2 S6 => ⟨_, rfl, hJ36 _ _ ?_⟩
            have S7 : Stp hb h6 (mgR R (psR W σ1) ⟨p, b, ((k + 1 : Nat) : Int)⟩ k1 false false) (mgR R (psR W σ') w' k1 false false) := (S5.trans ((mg_q P5.1 S6).left P5)).conv (fun P => P.1) fun b e => .inl e
            exact ⟨(mg_o S7.p).1, fin23 _ σ' (S7.trans (mg_o S7.p).2) ((e2 hop).trans F1) (e1.trans F2)⟩
          obtain ⟨y0, y1, y2, y3⟩ := f4_cells P4.2.1
          refine ⟨_, y0, fun J39 hJ39 => ?_⟩
          have keep : ((f k1).op ≠ 6 ∨ kU (f k1).li ≠ 0) → J39 false h4 := fun hop => hJ39 _ _ (iF rfl (run h4 (f k1).op S4 hop))
          have turn : J39 true h4 := by
            have B4 : Blk h4 bx 4 (f4 (.int .i64 (f k1).op) (.int .i64 (f k1).li) (.int .u64 (f k1).p) (.int .u64 (f k1).v)) := P4.2.1
            have T5 := Stp.set B4 0 (.int .i64 7) (g := f4 (.int .i64 7) (.int .i64 (f k1).li) (.int .u64 (f k1).p) (.int .u64 (f k1).v)) fun j hj => by
              have : j = 0 ∨ j = 1 ∨ j = 2 ∨ j = 3 := by omega
              rcases this with rfl | rfl | rfl | rfl <;> rfl
            exact hJ39 _ _ (iT rfl ⟨B4.wr (by omega), run _ 7 (S4.trans (T5.right P4)) (.inl (by omega))⟩)
          by_cases h6 : (f k1).op = 6
          · refine qT (by simp [h6]) ⟨_, y1, fun J41 hJ41 => ?_⟩
            by_cases hl0 : (f k1).li ≤ 0
            · exact pT (decide_eq_true hl0) (hJ41 _ _ turn)
            · refine pF (decide_eq_false hl0) ⟨_, y1, hJ41 _ _ ?_⟩
              by_cases hl2 : (f k1).li > 2
              · rw [decide_eq_true hl2]; exact turn
              · rw [decide_eq_false hl2]
                exact keep (.inr (by unfold kU; rw [if_neg (by omega)]; omega))
          · exact qF' (beq_false_of_ne h6) (keep (.inl h6))
        cases hc1 : (decide (k1 < n) && ((f k1).op == 8))
        case true => exact pT rfl point27
        refine pF rfl ⟨_, mg_ck P3, _, _, _, mg_11 P3, fun J42 hJ42 => ?_⟩
        by_cases hk1 : k1 < n
        · exact qF' (decide_eq_false (by show ¬ ((k1 : Nat) : Int) ≥ ((n : Nat) : Int); omega)) (hJ42 _ _ fun J43 hJ43 => qF' rfl (hJ43 _ _ step27))
        · refine qT (decide_eq_true (by show ((k1 : Nat) : Int) ≥ ((n : Nat) : Int); omega)) ⟨_, _, _, mg_11 P3, hJ42 _ _ fun J43 hJ43 => ?_⟩
          rcases Nat.eq_zero_or_pos n with hn0 | hn0
          · exact qF' (decide_eq_false (by show ¬ ((n : Nat) : Int) > 0; omega)) (hJ43 _ _ step27)
          · obtain ⟨a, ea, hcl⟩ := sts_at PE3.2.1 (i := n - 1) (by omega)
            have ew : IntKind.wrap .i64 (((n : Nat) : Int) - 1) = ((n - 1 : Nat) : Int) := by rw [IntWalk.i64_in _ (by omega)]; omega
            refine qT (decide_eq_true (by show ((n : Nat) : Int) > 0; omega)) ⟨_, _, _, mg_11 P3, _, _, _, mg_11 P3, a, ea, ?_⟩
            show 0 ≤ IntKind.wrap .i64 (((n : Nat) : Int) - 1) ∧ IntKind.wrap .i64 (((n : Nat) : Int) - 1) < ((n : Nat) : Int) ∧ ∃ n90 : Int, cellAt h3 (a.add (Int.toNat (IntKind.wrap .i64 (((n : Nat) : Int) - 1)) * 4)) = some (.int .i64 n90) ∧ J43 (n90 == 8) h3
            rw [ew]
            refine ⟨by omega, Int.ofNat_lt.2 (by omega), _, (hcl _ rfl).1, ?_⟩
            cases ((f (n - 1)).op == 8)
            · exact hJ43 _ _ step27
            · exact hJ43 _ _ point27
      · exact fun k p b x y h1 _ _ h2 h3 => stay k p b x y h1 h2 h3
    have Hin := range_in (o := stt false) PE.1 (hst false)
    have u : Upd (fun _ => False) hl ((hl.push (.deferred (some []))).push (stt false)) := (push_upd _ hl _ (noC_fz (o := .deferred (some [])) trivial)).nx (push_upd _ _ _ (noC_fz (hst false))) fun _ e _ => e
    have Hw : (andR (andR (blkR cb 1 fun _ => .pointer (some ⟨σ.lb 0, 0, none⟩)) (andR (objR (hl.size + 1) (stt false)) (mR R ⟨σ, ⟨σ.hd 0, 0, ((roomU W.c σ.st : Nat) : Int)⟩, 0, false⟩))) (stsR p5 n f)).P ((hl.push (.deferred (some []))).push (stt false)) := by
      have cbl := (cell1 cb (.pointer (some ⟨σ.lb 0, 0, none⟩))).lt PE.2.1.1
      have exl := (stsR p5 n f).lt PE.2.1.2.1
      refine ⟨⟨(cell1 cb _).st PE.2.1.1 u fun _ _ => id, Hin, fun b e e' => ?_⟩, (stsR p5 n f).st PE.2.1.2.1 u fun _ _ => id, fun b e e' => ?_⟩
      · have := cbl b e
        rcases e' with e' | e'
        · have e' : b = hl.size + 1 := e'; omega
        · exact PE.2.2 b e' (.inl e)
      · have := exl b e'
        rcases e with e | e | e
        · exact PE.2.1.2.2 b e e'
        · have e : b = hl.size + 1 := e; omega
        · exact PE.2.2 b e (.inr e')
    refine links_All_1_ok (V := fun x : RS × Bool => ⟨x.1.σ.st, x.1.σ.hd 0⟩) Y (fun x h' P => ?_) (σ := (⟨σ, ⟨σ.hd 0, 0, ((roomU W.c σ.st : Nat) : Int)⟩, 0, false⟩, false)) ⟨rfl, rfl, rfl, by show 0 + roomU W.c σ.st ≤ _; omega⟩ (l := σ.lb 0) (s := W.s) (by rfl) Hw fun τ h5 hw S5 => ?_
    · have hq := q_list P.2.1.2.1 (k := 0) (by omega)
      have e : x.1.σ.lb 0 = σ.lb 0 := P.2.1.1.1
      rw [e] at hq
      exact ⟨hq.1, W.Z, hq.2.1⟩
    obtain ⟨o1, o2⟩ := range_out PE.1 (hst false) (hst τ.2) S5
    have hend := WalkR_end (U := fun _ => True) (fun _ _ _ _ _ => trivial) (fun k p b x y h1 _ _ h2 h3 => stay k p b x y h1 h2 h3) _ _ _ _ _ (show rok _ _ _ _ from ⟨rfl, rfl, rfl, by show 0 + roomU W.c σ.st ≤ _; omega⟩) hw
    obtain ⟨y, e⟩ := τ
    have S6a := fun pe => o2 (rec .exhausted pe) (rec_noC hrec _ _)
    clear o2
    rcases hend with ⟨k', p', b', hok, hstop⟩ | ⟨k', p', b', σ', hok', hgd', hnx, hgo⟩
    · -- gone over to the end
      obtain ⟨hw1, hlf, he, hkk⟩ := hok
      have he : e = false := he
      have hlf : y.left = false := hlf
      have hw1 : y.w = ⟨p', b', ((k' : Nat) : Int)⟩ := hw1
      subst he
      have hmore : (goU W.c y.σ.st y.w).2.2 = false := by
        unfold goU
        rw [hw1, if_pos]
        rcases hstop with h0 | h0
        · left; show ((k' : Nat) : Int) = 0; omega
        · by_cases hz : p' = 0
          · exact .inr (.inl hz)
          by_cases t : y.σ.st.th W.c p' 16 = true
          · refine .inr (.inr (.inr fun hb => h0 ?_))
            have hb : y.σ.st.rd W.c (p' + 8) = b' := hb
            show ((p' == 0 || !y.σ.st.th W.c p' 16) || (lk2 y.σ.st W.c p' != b')) = false
            have : lk2 y.σ.st W.c p' = y.σ.st.rd W.c (p' + 8) := by simp [lk2, t]
            rw [this, hb, t, beq_false_of_ne hz]
            simp
          · exact .inr (.inr (.inl (by simpa using t)))
      · refine ⟨.ready, none, o1, by simp, ?_⟩
        have S6 := S6a none
        simp only [afterR]
        generalize setO h5 (hl.size + 1) (rec .exhausted none) = hA at S6 ⊢
        have P6 := S6.p
        obtain ⟨⟨E1, E2, E3⟩, G6⟩ := P6.2.1
        have E1 : y.σ.lb 0 = σ.lb 0 := E1
        have E2 : y.σ.st.n = σ.st.n := E2
        obtain ⟨a0, a1, a2, a3⟩ := mg_7 G6
        obtain ⟨c0, c1, c2⟩ := mg_13 G6
        refine ⟨_, a0, _, a1, _, a2, _, _, _, a3, _, c0, _, c1, _, c2, ref3_Go_n (st := y.σ.st) (w := y.w) E2 E3.1 E3.2 G6.1.2.1.2.1 fun h7 u7 => ⟨_, _, _, _, _, rfl, ?_⟩⟩
        generalize hgo' : goU W.c y.σ.st y.w = gg
        obtain ⟨q8, N8⟩ := box3_ok h7 (.int .u64 0) (.int .u64 0) (.int .i64 0) (.int .u64 gg.1.p) (.int .u64 gg.1.b) (.int .i64 gg.1.left) T.T_croftref3_Walk
        refine ⟨q8, ?_⟩
        generalize setCs (Array.push h7 (.cells #[.int .u64 0, .int .u64 0, .int .i64 0] T.T_croftref3_Walk)) ⟨Array.size h7, 0, none⟩ 0 [.int .u64 gg.1.p, .int .u64 gg.1.b, .int .i64 gg.1.left] = h8 at N8 ⊢
        have S8 := S6.trans (Stp.quiet P6 (u7.nx N8.u fun _ e _ => e))
        have P8 := S8.p
        have G8 := P8.2.1.2
        refine ⟨_, mg_cl G8, fun J47 hJ47 => ?_⟩
        have fin : J47 true h8 := by
          refine hJ47 _ _ ⟨(mg_r G8 true).1, ?_⟩
          have T9 := (mg_r G8 true).2
          have S9 : Stp hl (setC h8 ⟨b12, 0, none⟩ (.bool true)) (mR R ⟨σ, ⟨σ.hd 0, 0, ((roomU W.c σ.st : Nat) : Int)⟩, 0, false⟩) (andR (objR hl.size (.deferred (some []))) (mgR R (psR W y.σ) y.w y.k y.left true)) :=
            S8.trans (Stp.right ⟨T9.u, T9.p, T9.g⟩ P8)
          obtain ⟨t1, t2⟩ := take_out S9
          refine ⟨t1, _, cell1_get (mg_12 t2.p), ?_⟩
          refine hK y.σ _ E2 E1 ?_
          rw [E1]
          exact Stp.left (((S0.trans t2).conv (fun P => P.1) fun b e => .inl e : Stp h _ (psR W σ) (psR W y.σ))) H.1
        rw [hlf]
        refine pF rfl ?_
        rw [← hgo', hmore]
        exact fin
    · -- left
      obtain ⟨hy, hx⟩ := hnx
      have hgo : leaves f R.n σ'.1 = true := by simpa using hgo
      rw [hgo] at hx
      obtain ⟨hlf, he⟩ := hx
      have he : e = true := he
      have hlf : y.left = true := hlf
      subst he
      · refine ⟨.done, some (.exit 0), o1, by simp, .inl ⟨rfl, ?_⟩⟩
        have S6 := S6a (some (.exit 0))
        generalize setO h5 (hl.size + 1) (rec .exhausted (some (.exit 0))) = hA at S6 ⊢
        have P6 := S6.p
        obtain ⟨⟨E1, E2, E3⟩, G6⟩ := P6.2.1
        have E1 : y.σ.lb 0 = σ.lb 0 := E1
        have E2 : y.σ.st.n = σ.st.n := E2
        obtain ⟨a0, a1, a2, a3⟩ := mg_7 G6
        obtain ⟨c0, c1, c2⟩ := mg_13 G6
        refine ⟨_, a0, _, a1, _, a2, _, _, _, a3, _, c0, _, c1, _, c2, ref3_Go_n (st := y.σ.st) (w := y.w) E2 E3.1 E3.2 G6.1.2.1.2.1 fun h7 u7 => ⟨_, _, _, _, _, rfl, ?_⟩⟩
        generalize hgo' : goU W.c y.σ.st y.w = gg
        obtain ⟨q8, N8⟩ := box3_ok h7 (.int .u64 0) (.int .u64 0) (.int .i64 0) (.int .u64 gg.1.p) (.int .u64 gg.1.b) (.int .i64 gg.1.left) T.T_croftref3_Walk
        refine ⟨q8, ?_⟩
        generalize setCs (Array.push h7 (.cells #[.int .u64 0, .int .u64 0, .int .i64 0] T.T_croftref3_Walk)) ⟨Array.size h7, 0, none⟩ 0 [.int .u64 gg.1.p, .int .u64 gg.1.b, .int .i64 gg.1.left] = h8 at N8 ⊢
        have S8 := S6.trans (Stp.quiet P6 (u7.nx N8.u fun _ e _ => e))
        have P8 := S8.p
        have G8 := P8.2.1.2
        refine ⟨_, mg_cl G8, fun J47 hJ47 => ?_⟩
        have fin : J47 true h8 := by
          refine hJ47 _ _ ⟨(mg_r G8 true).1, ?_⟩
          have T9 := (mg_r G8 true).2
          have S9 : Stp hl (setC h8 ⟨b12, 0, none⟩ (.bool true)) (mR R ⟨σ, ⟨σ.hd 0, 0, ((roomU W.c σ.st : Nat) : Int)⟩, 0, false⟩) (andR (objR hl.size (.deferred (some []))) (mgR R (psR W y.σ) y.w y.k y.left true)) :=
            S8.trans (Stp.right ⟨T9.u, T9.p, T9.g⟩ P8)
          obtain ⟨t1, t2⟩ := take_out S9
          refine ⟨t1, _, cell1_get (mg_12 t2.p), ?_⟩
          refine hK y.σ _ E2 E1 ?_
          rw [E1]
          exact Stp.left (((S0.trans t2).conv (fun P => P.1) fun b e => .inl e : Stp h _ (psR W σ) (psR W y.σ))) H.1
        rw [hlf]
        exact pT rfl fin
  have hI : ∀ {h' : Heap}, Upd NoB h12 h' → _ := fun {h'} u => (Stp.quiet P12 u).p
  have cells : ∀ {h' : Heap} (P : (andR (psR W σ) (andR (andR (cell1 b6 (.pointer (some ⟨W.s, 0, none⟩))) (andR (blkR b7 4 (dF W.c σ.st.n W.mp W.mc)) (andR (cell1 b9 (.pointer (some ⟨W.bm, 0, none⟩))) (andR (cell1 b10 (.pointer (some ⟨W.bh, 0, none⟩))) (cell1 b11 (.slice p5 n cp)))))) (cell1 b12 (.bool false)))).P h'),
      cellAt h' ⟨W.bh, 0, none⟩ = some (.int .u64 (σ.hd 0)) ∧ cellAt h' ⟨b10, 0, none⟩ = some (.pointer (some ⟨W.bh, 0, none⟩)) ∧ cellAt h' ⟨b7, 0, none⟩ = some (.int .u64 W.c.base) ∧ cellAt h' ⟨b7, 1, none⟩ = some (.int .u64 (W.c.size : Int)) ∧ cellAt h' ⟨b7, 2, none⟩ = some (.int .i64 W.c.limit) ∧ cellAt h' ⟨b7, 3, none⟩ = some (.slice W.mp (σ.st.n * W.c.size) W.mc) := by
    intro h' P
    obtain ⟨d0, d1, d2, d3⟩ := f4_cells P.2.1.1.2.1.1
    exact ⟨q_head P.1 (k := 0) (by omega), cell1_get P.2.1.1.2.1.2.1.2.1.1, d0, d1, d2, d3⟩
  have asm : ∀ {ha hb' : Heap} {b13 : Nat} {w : Wk}, Upd NoB h12 ha → New ha hb' (blkR b13 3 (f3 (.int .u64 w.p) (.int .u64 w.b) (.int .i64 w.left))) → Stp h hb' (psR W σ) (andR (psR W σ) (andR (andR (andR (cell1 b6 (.pointer (some ⟨W.s, 0, none⟩))) (andR (blkR b7 4 (dF W.c σ.st.n W.mp W.mc)) (andR (cell1 b9 (.pointer (some ⟨W.bm, 0, none⟩))) (andR (cell1 b10 (.pointer (some ⟨W.bh, 0, none⟩))) (cell1 b11 (.slice p5 n cp)))))) (cell1 b12 (.bool false))) (blkR b13 3 (f3 (.int .u64 w.p) (.int .u64 w.b) (.int .i64 w.left))))) := by
    intro ha hb' b13 w ua N
    have S1 := S12.trans (Stp.quiet P12 ua)
    exact (S1.trans (Stp.new S1.p N)).conv (fun P => ⟨P.1.1, ⟨P.1.2.1, P.2.1, fun b e e' => P.2.2 b (.inr e) e'⟩, fun b e e' => e'.elim (fun e' => P.1.2.2 b e e') fun e' => P.2.2 b (.inl e) e'⟩) fun b e => e.elim (fun e => .inl (.inl e)) fun e => e.elim (fun e => .inl (.inr e)) .inr
  constructor
  · refine ref3_Begin_ok P12.1.2.1.2.1 fun h13 u13 => ⟨_, _, _, rfl, ?_⟩
    obtain ⟨q14, N14⟩ := box3_ok h13 (.int .u64 0) (.int .u64 0) (.int .i64 0) (.int .u64 (σ.hd 0)) (.int .u64 0) (.int .i64 ((roomU W.c σ.st : Nat) : Int)) T.T_croftref3_Walk
    have Nz := New.box h13 #[.int .u64 0, .int .u64 0, .int .i64 0] T.T_croftref3_Walk
    obtain ⟨y0, y1, y2, y3, y4, y5⟩ := cells ((Stp.quiet P12 (u13.nx Nz.u fun _ e _ => e)).p)
    exact ⟨y0, y1, y2, y3, y4, y5, q14, core _ _ (asm (w := ⟨σ.hd 0, 0, ((roomU W.c σ.st : Nat) : Int)⟩) u13 N14)⟩
  · have Nz := box3c h12 (.int .u64 0) (.int .u64 0) (.int .i64 0) T.T_croftref3_Walk
    have Pz := (Stp.quiet P12 Nz.u).p
    obtain ⟨y0, y1, y2, y3, y4, y5⟩ := cells Pz
    refine ⟨y0, y1, y2, y3, y4, y5, ref3_Begin_ok Pz.1.2.1.2.1 fun h13 u13 => ⟨_, _, _, rfl, ?_⟩⟩
    have Nq := Nz.quiet u13
    have B : Blk h13 h12.size 3 (f3 (.int .u64 0) (.int .u64 0) (.int .i64 0)) := Nq.p
    have T := Stp.sets B [.int .u64 (σ.hd 0), .int .u64 0, .int .i64 ((roomU W.c σ.st : Nat) : Int)] 0 0 (g := f3 (.int .u64 (σ.hd 0)) (.int .u64 0) (.int .i64 ((roomU W.c σ.st : Nat) : Int))) fun j hj => by
      rw [if_pos ⟨by omega, by simpa using hj⟩]
      have : j = 0 ∨ j = 1 ∨ j = 2 := by omega
      rcases this with rfl | rfl | rfl <;> rfl
    exact ⟨fun j hj => by rw [add_mk]; exact B.wr (by omega), core _ _ (asm (w := ⟨σ.hd 0, 0, ((roomU W.c σ.st : Nat) : Int)⟩) (Upd.refl _ _) (Nq.stp T))⟩
end
end Go.Proofs.Ytfijahblggnbbaa
