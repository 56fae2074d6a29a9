/- croftlaw3: all, same, word, small. No condition. -/
import Derived.Test.YtfijahblggnbbaaK4
set_option linter.unusedSimpArgs false
set_option linter.unusedVariables false
namespace Go.Proofs.Ytfijahblggnbbaa
open Go.V Classical

/-- What a range gives in which nothing is done. -/
def walkL (c : Cfg) (st : Sto) : Nat → Int → Int → List Int
  | 0, _, _ => []
  | k + 1, p, b => bif (p == 0 || !st.th c p 16) || (lk2 st c p != b) then [] else p :: walkL c st k (lk1 st c p) p

def allL (c : Cfg) (x : LS) : List Int := walkL c x.st (roomU c x.st) x.hd 0

theorem walkL_len (c : Cfg) (st : Sto) : ∀ (k : Nat) (p b : Int), (walkL c st k p b).length ≤ k
  | 0, _, _ => Nat.le_refl _
  | k + 1, p, b => by
    simp only [walkL]
    cases ((p == 0 || !st.th c p 16) || (lk2 st c p != b))
    · have := walkL_len c st k (lk1 st c p) p
      simp only [cond_false, List.length_cons]; omega
    · simp

/-- The cells of a row of addresses. -/
def uL (xs : List Int) : Nat → Value := fun i => .int .u64 (xs.getD i 0)

structure OutS where
  xs : List Int
  p : Option Addr
  cap : Nat

/-- A variable that holds a row of addresses, and the row. -/
def outR (b : Nat) (o : OutS) : Res := andR (blkR b 1 fun _ => .slice o.p o.xs.length o.cap) (slR o.p o.xs.length o.cap 1 (uL o.xs))

theorem walkR_const {S : Type} {c : Cfg} {V : S → LS} {nx : S → Int → S → Prop} {go : S → Int → Bool} {x : LS} (xs : S → List Int) (hV : ∀ σ, V σ = x) (hgo : ∀ σ e, go σ e = true) (hnx : ∀ σ e σ', nx σ e σ' → xs σ' = xs σ ++ [e]) :
    ∀ (k : Nat) (p b : Int) (σ τ : S), WalkR c V nx go k p b σ τ → xs τ = xs σ ++ walkL c x.st k p b
  | 0, _, _, σ, τ, h => by
    have h : τ = σ := h
    rw [h]; simp [walkL]
  | k + 1, p, b, σ, τ, h => by
    simp only [WalkR, hV, hgo, cond_true] at h
    simp only [walkL]
    cases hc : ((p == 0 || !x.st.th c p 16) || (lk2 x.st c p != b)) <;> rw [hc] at h
    · simp only [cond_false] at h ⊢
      obtain ⟨σ', h1, h2⟩ := h
      rw [walkR_const xs hV hgo hnx k _ _ _ _ h2, hnx _ _ _ h1]
      simp
    · simp only [cond_true] at h ⊢
      rw [h]; simp

theorem uL_snoc (xs : List Int) (e : Int) (i : Nat) (hi : i < xs.length + 1) : (if i = xs.length then Value.int .u64 e else uL xs i) = uL (xs ++ [e]) i := by
  unfold uL
  by_cases h : i = xs.length
  · subst h; simp [List.getD_eq_getElem?_getD]
  · rw [if_neg h, List.getD_eq_getElem?_getD, List.getD_eq_getElem?_getD, List.getElem?_append_left (by omega)]

section
variable {w₀ : World} {h : Heap} {s l : Nat} {c : Cfg} {Z : Nat → Prop} {x : LS} {K : Value → Heap → Prop}

/-- A variable's row, one address more. -/
theorem out_app {h : Heap} {b : Nat} {o : OutS} {e : Int} (H : (outR b o).P h) (hlen : o.xs.length ≤ 1073741824) :
    cellAt h ⟨b, 0, none⟩ = some (.slice o.p o.xs.length o.cap) ∧ ∃ os xs, AppPre (h.push (.cells #[.int .u64 e] T.T_uint64)) o.p o.xs.length o.cap (some ⟨h.size, 0, none⟩) 1 1 8 os xs ∧
      ∀ (p' : Option Addr) (c' : Nat) (h' : Heap), AppRes (h.push (.cells #[.int .u64 e] T.T_uint64)) o.p o.xs.length o.cap 1 [(.int .u64 (0 : Int))] T.T_uint64 os xs p' c' h' →
        Wr h' ⟨b, 0, none⟩ ∧ Stp h (setC h' ⟨b, 0, none⟩ (.slice p' (o.xs.length + 1) c')) (outR b o) (outR b ⟨o.xs ++ [e], p', c'⟩) := by
  have Bc : Blk h b 1 fun _ => .slice o.p o.xs.length o.cap := H.1
  refine ⟨Bc.cell (by omega), ?_⟩
  obtain ⟨os, q1, q2⟩ := sl_app1 (zs := [(.int .u64 (0 : Int))]) (v := .int .u64 e) (b := 8) (e := T.T_uint64) (T := T.T_uint64) H.2.1 rfl rfl (by omega)
  refine ⟨os, _, q1, fun p' c' h' hres => ?_⟩
  have A := (q2 p' c' h' hres).conv (R2 := slR p' (o.xs ++ [e]).length c' 1 (uL (o.xs ++ [e]))) (fun P => by
    have P := sl_congr P (g := uL (o.xs ++ [e])) fun i hi => uL_snoc o.xs e i (by omega)
    simpa using P) fun _ e => e
  have A1 := A.right H
  have B2 : Blk h' b 1 fun _ => .slice o.p o.xs.length o.cap := A1.p.1
  have S2 := Stp.set B2 0 (.slice p' (o.xs.length + 1) c') (g := fun _ => .slice p' (o.xs ++ [e]).length c') fun j hj => by
    have : j = 0 := by omega
    subst this; simp
  exact ⟨B2.wr (by omega), A1.trans (S2.left A1.p)⟩

theorem all_ok (H : (lwR s l c Z x).P h)
    (hK : ∀ (h' : Heap) (p : Option Addr) (cap : Nat), Stp h h' (lwR s l c Z x) (andR (lwR s l c Z x) (slR p (allL c x).length cap 1 (uL (allL c x)))) → K (.slice p (allL c x).length cap) h') :
    CallV Try.prog w₀ F.croftlaw3_all [.pointer (some ⟨l, 0, none⟩)] h K := by
  refine croftlaw3_all.call ?_
  unfold croftlaw3_all.vc
  have N1 := New.box h #[.slice none 0 0] T.T_sl_uint64
  generalize hh1 : Array.push h (.cells #[.slice none 0 0] T.T_sl_uint64) = h1 at N1 ⊢
  have N1' : New h h1 (outR h.size ⟨[], none, 0⟩) := by
    refine ⟨N1.u, ⟨Blk.congr N1.p fun i hi => ?_, sl_nil 1 _ h1, fun b e e' => sl_nil_fp b e'⟩, fun b e => e.elim (N1.g b) fun e => absurd e (sl_nil_fp b)⟩
    have hi : i < 1 := hi
    have : i = 0 := by omega
    subst this; rfl
  have S1 := Stp.new H N1'
  refine links_List_All.call ?_
  unfold links_List_All.vc
  have N2 := New.box h1 #[.pointer (some ⟨l, 0, none⟩)] T.T_p_links_List
  generalize hh2 : Array.push h1 (.cells #[.pointer (some ⟨l, 0, none⟩)] T.T_p_links_List) = h2 at N2 ⊢
  refine ⟨_, rfl, false, rfl, fun e => (by cases e), fun _ rec hrec hround => CallG_func (by kernel_rfl) (CallV.toR ?_)⟩
  have S2 := S1.trans (Stp.quiet S1.p N2.u)
  let M : OutS → Res := fun o => andR (lwR s l c Z x) (outR h.size o)
  have hr := rec_noC hrec .ready none
  have Y : Yd Try.prog w₀ (.func (.yield (h2.size + 1)) #[] #[]) (fun o : OutS => andR (objR (h2.size + 1) (rec .ready none)) (M o)) noR (fun k _ _ o => o.xs.length + k ≤ 1073741824) (gdU c fun _ : OutS => x) (fwU c fun _ : OutS => x) (fun o e o' => o'.xs = o.xs ++ [e]) (fun _ _ => true) := by
    refine ⟨?_, rfl, fun k e _ o o' h1 _ _ _ h2 => by rw [h2]; simp; omega⟩
    intro k e _ o hB hk _ he HB
    obtain ⟨r1, r2, r3⟩ := round_out HB.1 hr (rec_noC hrec .busy none)
    refine hround e hB _ rfl r1 ⟨r1, o.p, o.xs.length, o.cap, ?_⟩
    obtain ⟨a1, os, xs, a2, a3⟩ := out_app (e := e) r2.2.1 (by omega)
    refine ⟨a1, os, xs, a2, fun p' c' h3 hres => ?_⟩
    obtain ⟨a4, a5⟩ := a3 p' c' h3 hres
    obtain ⟨r4, r5⟩ := r3 _ (M ⟨o.xs ++ [e], p', c'⟩) (a5.right r2)
    exact ⟨a4, r4, rfl, ⟨o.xs ++ [e], p', c'⟩, rfl, r5 _ hr⟩
  have Hin := range_in S2.p hr
  have W2 : (blkR h1.size 1 fun j => (#[.pointer (some ⟨l, 0, none⟩)] : Array Value).getD j undef).P h2 := N2.p
  have Hw : (andR (blkR h1.size 1 fun j => (#[.pointer (some ⟨l, 0, none⟩)] : Array Value).getD j undef) (andR (objR (h2.size + 1) (rec .ready none)) (M ⟨[], none, 0⟩))).P ((h2.push (.deferred (some []))).push (rec .ready none)) := by
    have u : Upd (fun _ => False) h2 ((h2.push (.deferred (some []))).push (rec .ready none)) := (push_upd _ h2 _ (noC_fz (o := .deferred (some [])) trivial)).nx (push_upd _ _ _ (noC_fz hr)) fun _ e _ => e
    refine ⟨(blkR h1.size 1 _).st W2 u fun _ _ => id, Hin, fun b e e' => ?_⟩
    have e : b = h1.size := e
    have hs2 : h2.size = h1.size + 1 := by rw [← hh2]; simp
    rcases e' with e' | e'
    · have e' : b = h2.size + 1 := e'; omega
    · have := (M ⟨[], none, 0⟩).lt S1.p b e'
      omega
  have hroom : roomU c x.st ≤ 4194304 := by
    have := (H.2.1.good.len H.2.1.nl).1
    exact Nat.le_trans (Nat.div_le_self _ _) this
  refine links_All_1_ok (V := fun _ : OutS => x) Y (fun o h' P => ⟨P.2.1.1.1, Z, P.2.1.1.2.1⟩) (σ := ⟨[], none, 0⟩) (by show 0 + _ ≤ _; omega) (by rfl) (andNo Hw) fun o h3 hw S3 => ?_
  have hx : o.xs = allL c x := by
    have := walkR_const (x := x) (fun o : OutS => o.xs) (fun _ => rfl) (fun _ _ => rfl) (fun _ _ _ h => h) _ _ _ _ _ hw
    simpa [allL] using this
  obtain ⟨o1, o2⟩ := range_out S2.p hr hr S3
  have S4 := o2 (rec .exhausted none) (rec_noC hrec _ _)
  obtain ⟨t1, t2⟩ := take_out S4
  refine ⟨.ready, none, o1, by simp, o.p, o.xs.length, o.cap, S4.p.2.1.2.1.1.cell (i := 0) (by omega), t1, ?_⟩
  have S5 := S2.trans t2
  obtain ⟨xs, p, cap⟩ := o
  have hx : xs = allL c x := hx
  subst hx
  exact hK _ p cap (S5.conv (fun P => ⟨P.1, P.2.1.2.1, fun b e e' => P.2.2 b e (.inr e')⟩) fun b e => e.imp id .inr)

theorem same_ok {xs ys : List Int} {p q : Option Addr} {cp cq : Nat} (hx : xs.length < 4611686018427387904) (P : Row h p xs.length (uL xs)) (Q : Row h q ys.length (uL ys)) (hK : K (.bool (decide (xs = ys))) h) :
    CallV Try.prog w₀ F.croftlaw3_same [.slice p xs.length cp, .slice q ys.length cq] h K := by
  refine croftlaw3_same.call ?_
  unfold croftlaw3_same.vc
  by_cases hl : xs.length = ys.length
  · refine iF (by simp [hl]) fun J1 hJ1 L2 hL2 => ?_
    have loop : ∀ (k i : Nat), i + k = xs.length → (∀ j, j < i → xs[j]? = ys[j]?) → L2 [.slice p xs.length cp, .slice q ys.length cq, .int .i64 ((i : Nat) : Int)] h := by
      intro k
      induction k with
      | zero =>
        intro i hi he
        refine hL2 _ _ _ _ _ _ _ _ (iF (decide_eq_false (by omega)) (hJ1 _ ?_))
        have : xs = ys := List.ext_getElem? fun j => by
          rcases Nat.lt_or_ge j i with h1 | h1
          · exact he j h1
          · rw [List.getElem?_eq_none (by omega), List.getElem?_eq_none (by omega)]
        rwa [decide_eq_true this] at hK
      | succ k ih =>
        intro i hi he
        refine hL2 _ _ _ _ _ _ _ _ (iT (decide_eq_true (by omega)) ?_)
        rcases P with P | ⟨b, o, rfl, P⟩
        · omega
        rcases Q with Q | ⟨b', o', rfl, Q⟩
        · omega
        refine ⟨_, rfl, by omega, Int.ofNat_lt.2 (by omega), xs.getD i 0, ?_, _, rfl, by omega, Int.ofNat_lt.2 (by omega), ys.getD i 0, ?_, ?_⟩
        · simp only [add_mk, Int.toNat_natCast, Nat.mul_one]; exact P i (by omega)
        · simp only [add_mk, Int.toNat_natCast, Nat.mul_one]; exact Q i (by omega)
        by_cases hv : xs.getD i 0 = ys.getD i 0
        · refine iF (eq_b hv) ?_
          rw [IntWalk.i64_in _ (by omega)]
          have := ih (i + 1) (by omega) fun j hj => by
            rcases Nat.lt_or_ge j i with h1 | h1
            · exact he j h1
            · have : j = i := by omega
              subst this
              rw [List.getD_eq_getElem?_getD, List.getD_eq_getElem?_getD, List.getElem?_eq_getElem (by omega), List.getElem?_eq_getElem (by omega)] at hv
              rw [List.getElem?_eq_getElem (by omega), List.getElem?_eq_getElem (by omega)]
              simpa using hv
          simpa using this
        · refine iT (ne_b hv) ?_
          have : xs ≠ ys := fun e => hv (by rw [e])
          rwa [decide_eq_false this] at hK
    exact loop xs.length 0 (by omega) fun j hj => by omega
  · refine iT (by simpa using fun e => hl (by omega)) ?_
    have : xs ≠ ys := fun e => hl (by rw [e])
    rwa [decide_eq_false this] at hK

theorem word_ok {st : Sto} {p : Int} (hp : U64 p) (H : (spR s c Z st).P h) (hK : ∀ h', Upd NoB h h' → K (.int .u64 (if st.th c p 8 = true then st.rd c p else 12345)) h') :
    CallV Try.prog w₀ F.croftlaw3_word [.pointer (some ⟨s, 0, none⟩), .int .u64 p] h K := by
  refine croftlaw3_word.call ?_
  unfold croftlaw3_word.vc
  refine mem_Word_ok hp H (fun t h1 u1 => ⟨_, _, rfl, iF rfl ?_⟩) (fun t h1 u1 => ⟨_, _, rfl, iT rfl ?_⟩)
  · have := hK h1 u1
    rw [if_pos (th_iff.2 t)] at this
    exact this
  · have := hK h1 u1
    rw [if_neg (by rw [th_false.2 t]; simp)] at this
    exact this

/-- The small space. -/
def C1 : Cfg := ⟨4096, 1, 0⟩
def S1 : Sto := ⟨1, fun _ => 0⟩
theorem C1_good : C1.Good := good_iff.2 (by decide)

theorem small_ok (hK : ∀ (h' : Heap) (s : Nat) (Z : Nat → Prop), New h h' (spR s C1 Z S1) → K (.pointer (some ⟨s, 0, none⟩)) h') : CallV Try.prog w₀ F.croftlaw3_small [] h K := by
  refine croftlaw3_small.call ?_
  unfold croftlaw3_small.vc
  refine mem_New_ok (by omega) (fun hn => absurd C1_good hn) fun _ h1 s u1 hs H1 => ⟨_, _, rfl, jor.2 ⟨fun e => (by cases e), fun _ => ?_⟩⟩
  refine mem_Commit_ok H1 (fun e => by rcases e with e | e <;> cases e) fun _ _ h2 u2 H2 => ⟨_, _, rfl, iF rfl ?_⟩
  refine hK h2 s _ ⟨u1.nx u2 fun b e hb => by omega, H2.congr fun o ho => (by simp [S1]), fun b e => ?_⟩
  rcases e with e | e
  · have e : b = s := e; omega
  · have := u1.1; omega
end
end Go.Proofs.Ytfijahblggnbbaa
