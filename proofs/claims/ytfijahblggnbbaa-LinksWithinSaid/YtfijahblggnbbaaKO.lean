/- LinksWithin. No condition. -/
import Derived.Test.YtfijahblggnbbaaKM
set_option linter.unusedSimpArgs false
set_option linter.unusedVariables false
set_option maxHeartbeats 2000000
namespace Go.Proofs.Ytfijahblggnbbaa
open Go.V Classical

/-- Where it lies, and what was first. -/
structure WW where
  s : Nat
  l : Nat
  Z : Nat → Prop
  b3 : Nat
  b4 : Nat
  b5 : Nat
  b6 : Nat
  bf : Nat
  bk : Nat
  bn : Nat
  p1 : Option Addr
  n1 : Nat
  cp1 : Nat
  fp : Option Addr
  fc : Nat
  first : List Int
  x0 : LS

structure WS where
  lw : LS
  n : Nat
  kk : Nat

abbrev wM (R : WW) (x : LS) (n kk : Nat) (res : Bool) : Res :=
  andR (cell1 R.b3 (.slice R.p1 R.n1 R.cp1)) (andR (cell1 R.b4 (.bool res)) (andR (cell1 R.b5 (.pointer (some ⟨R.s, 0, none⟩))) (andR (cell1 R.b6 (.pointer (some ⟨R.l, 0, none⟩))) (andR (slR R.fp R.first.length R.fc 1 (uL R.first))
    (andR (lwR R.s R.l C1 R.Z x) (andR (cell1 R.bf (.slice R.fp R.first.length R.fc)) (andR (cell1 R.bk (.int .i64 ((kk : Nat) : Int))) (cell1 R.bn (.int .i64 ((n : Nat) : Int))))))))))

section
variable {R : WW} {x : LS} {n kk : Nat} {res : Bool} {h : Heap}

theorem w_3 (P : (wM R x n kk res).P h) : cellAt h ⟨R.b3, 0, none⟩ = some (.slice R.p1 R.n1 R.cp1) := cell1_get P.1
theorem w_4 (P : (wM R x n kk res).P h) : (cell1 R.b4 (.bool res)).P h := P.2.1.1
theorem w_5 (P : (wM R x n kk res).P h) : cellAt h ⟨R.b5, 0, none⟩ = some (.pointer (some ⟨R.s, 0, none⟩)) := cell1_get P.2.1.2.1.1
theorem w_6 (P : (wM R x n kk res).P h) : cellAt h ⟨R.b6, 0, none⟩ = some (.pointer (some ⟨R.l, 0, none⟩)) := cell1_get P.2.1.2.1.2.1.1
theorem w_sl (P : (wM R x n kk res).P h) : (slR R.fp R.first.length R.fc 1 (uL R.first)).P h := P.2.1.2.1.2.1.2.1.1
theorem w_lw (P : (wM R x n kk res).P h) : (lwR R.s R.l C1 R.Z x).P h := P.2.1.2.1.2.1.2.1.2.1.1
theorem w_f (P : (wM R x n kk res).P h) : cellAt h ⟨R.bf, 0, none⟩ = some (.slice R.fp R.first.length R.fc) := cell1_get P.2.1.2.1.2.1.2.1.2.1.2.1.1
theorem w_k (P : (wM R x n kk res).P h) : (cell1 R.bk (.int .i64 ((kk : Nat) : Int))).P h := P.2.1.2.1.2.1.2.1.2.1.2.1.2.1.1
theorem w_n (P : (wM R x n kk res).P h) : (cell1 R.bn (.int .i64 ((n : Nat) : Int))).P h := P.2.1.2.1.2.1.2.1.2.1.2.1.2.1.2.1

theorem w_slw (P : (wM R x n kk res).P h) {h' : Heap} {x' : LS} (S : Stp h h' (lwR R.s R.l C1 R.Z x) (lwR R.s R.l C1 R.Z x')) : Stp h h' (wM R x n kk res) (wM R x' n kk res) :=
  (((((S.left P.2.1.2.1.2.1.2.1.2.1).right P.2.1.2.1.2.1.2.1).right P.2.1.2.1.2.1).right P.2.1.2.1).right P.2.1).right P
theorem w_sk (P : (wM R x n kk res).P h) (k' : Nat) : Stp h (setC h ⟨R.bk, 0, none⟩ (.int .i64 ((k' : Nat) : Int))) (wM R x n kk res) (wM R x n k' res) :=
  ((((((((cell1_set (w_k P) _).left P.2.1.2.1.2.1.2.1.2.1.2.1.2.1).right P.2.1.2.1.2.1.2.1.2.1.2.1).right P.2.1.2.1.2.1.2.1.2.1).right P.2.1.2.1.2.1.2.1).right P.2.1.2.1.2.1).right P.2.1.2.1).right P.2.1).right P
theorem w_sn (P : (wM R x n kk res).P h) (n' : Nat) : Stp h (setC h ⟨R.bn, 0, none⟩ (.int .i64 ((n' : Nat) : Int))) (wM R x n kk res) (wM R x n' kk res) :=
  ((((((((cell1_set (w_n P) _).right P.2.1.2.1.2.1.2.1.2.1.2.1.2.1).right P.2.1.2.1.2.1.2.1.2.1.2.1).right P.2.1.2.1.2.1.2.1.2.1).right P.2.1.2.1.2.1.2.1).right P.2.1.2.1.2.1).right P.2.1.2.1).right P.2.1).right P
theorem w_s4 (P : (wM R x n kk res).P h) (r' : Bool) : Stp h (setC h ⟨R.b4, 0, none⟩ (.bool r')) (wM R x n kk res) (wM R x n kk r') :=
  ((cell1_set (w_4 P) _).left P.2.1).right P
end

def wnx (R : WW) (x : WS) (p : Int) (y : WS) : Prop := y.n = x.n + 1 ∧ (if x.kk < R.n1 then y.kk = x.kk + 1 else y.kk = x.kk ∧ y.lw = x.lw)

def wok (R : WW) (k : Nat) (p b : Int) (x : WS) : Prop := x.n + k ≤ 256 ∧ x.kk ≤ x.n ∧ (x.kk = 0 → x.lw = R.x0 ∧ ∃ done : List Int, done.length = x.n ∧ R.first = done ++ walkL C1 R.x0.st k p b)

theorem w_stay {R : WW} {k : Nat} {p b : Int} {x y : WS} (H : wok R (k + 1) p b x) (hg : gdU C1 (fun x : WS => x.lw) x p b) (hn : wnx R x p y) : wok R k (fwU C1 (fun x : WS => x.lw) x p) p y := by
  obtain ⟨h1, h2, h3⟩ := H
  obtain ⟨n1, n2⟩ := hn
  by_cases hk : x.kk < R.n1
  · rw [if_pos hk] at n2
    exact ⟨by omega, by omega, fun e => by omega⟩
  · rw [if_neg hk] at n2
    refine ⟨by omega, by omega, fun e => ?_⟩
    obtain ⟨e1, done, e2, e3⟩ := h3 (by omega)
    refine ⟨n2.2.trans e1, done ++ [p], by simp [e2, n1], ?_⟩
    have hg : ((p == 0 || !x.lw.st.th C1 p 16) || (lk2 x.lw.st C1 p != b)) = false := hg
    rw [e1] at hg
    rw [e3]
    simp only [walkL, hg, cond_false, fwU, e1]
    simp

section
variable {w₀ : World}

/-- A push to a page that is there answers no EFAULT. -/
theorem push_there {x : LS} {p : Int} (t : x.st.th C1 p 16 = true) : (pushU C1 x p).2 ≠ 4 := by
  unfold pushU
  rw [if_neg (by rw [t]; simp)]
  split
  · simp
  · simp

theorem setany_ok {s : Nat} {c : Cfg} {Z : Nat → Prop} {st : Sto} {h : Heap} {K : Value → Heap → Prop} {p v : Int} (hp : U64 p) (hv : U64 v) (H : (spR s c Z st).P h)
    (hK : ∀ (r : Int) (st' : Sto) (h' : Heap), st'.n = st.n → Stp h h' (spR s c Z st) (spR s c Z st') → K (.int .i64 r) h') : CallV Try.prog w₀ F.mem_Space_SetWord [.pointer (some ⟨s, 0, none⟩), .int .u64 p, .int .u64 v] h K := by
  cases t : st.th c p 8
  · exact mem_SetWord_ok hp hv H (fun t' => absurd (th_iff.2 t') (by rw [t]; simp)) fun _ h' u => hK 4 st h' rfl (Stp.quiet H u)
  · exact setw_ok hp hv t H fun h' S => hK 0 (st.wr c p v) h' rfl S

theorem LinksWithin_law {w : World} {p0 p1 : Option Addr} {n0 cp0 n1 cp1 : Nat} (hs0 : SRow w.heap .i64 p0 n0 cp0) (hs1 : Sts w.heap p1 n1 cp1) :
    CallV Try.prog w F.croftlaw3_LinksWithin [.slice p0 n0 cp0, .slice p1 n1 cp1] w.heap fun r h' => r = .bool true ∧ Upd NoB w.heap h' := by
  obtain ⟨g, gnc, gc, gr, _⟩ := hs0
  obtain ⟨f, hnc, hc, hrow, hu⟩ := hs1
  have hfin : ∀ (h' : Heap), Upd NoB w.heap h' → (fun (r : Value) (h' : Heap) => r = Value.bool true ∧ Upd NoB w.heap h') (.bool true) h' := fun h' N => ⟨rfl, N⟩
  generalize (fun (r : Value) (h' : Heap) => r = Value.bool true ∧ Upd NoB w.heap h') = K at hfin ⊢
  refine croftlaw3_LinksWithin.call ?_
  unfold croftlaw3_LinksWithin.vc
  have N3 := cell1_new w.heap (.slice p1 n1 cp1) T.T_sl_croftlaw3_Step
  obtain ⟨b3, e3⟩ : ∃ b, b = w.heap.size := ⟨_, rfl⟩
  rw [← e3] at N3 ⊢
  generalize hh3 : Array.push w.heap (.cells #[.slice p1 n1 cp1] T.T_sl_croftlaw3_Step) = h3 at N3 ⊢
  have N4 := cell1_new h3 (.bool false) T.T_bool
  obtain ⟨b4, e4⟩ : ∃ b, b = h3.size := ⟨_, rfl⟩
  rw [← e4] at N4 ⊢
  generalize hh4 : Array.push h3 (.cells #[.bool false] T.T_bool) = h4 at N4 ⊢
  have I4 := ((Hold.nil w.heap).new N3).new N4
  refine small_ok fun h5 s Z A5 => ⟨_, rfl, ?_⟩
  have I5 := I4.new A5
  obtain ⟨w6, N6⟩ := cell1_var h5 (.pointer none) (.pointer (some ⟨s, 0, none⟩)) T.T_p_mem_Space
  obtain ⟨b5, e5⟩ : ∃ b, b = h5.size := ⟨_, rfl⟩
  rw [← e5] at w6 N6 ⊢
  refine ⟨w6, _, cell1_get N6.p, fun J6 hJ6 => pF rfl ?_⟩
  generalize setC (Array.push h5 (.cells #[.pointer none] T.T_p_mem_Space)) ⟨b5, 0, none⟩ (.pointer (some ⟨s, 0, none⟩)) = h6 at N6 ⊢
  have I6 := I5.new N6
  refine lives_ok fun h7 u7 => ⟨_, rfl, hJ6 _ _ (iF rfl ?_)⟩
  have I7 := I6.quiet u7
  refine ⟨_, cell1_get (I7.at 0), links_New_ok (s := s) (by omega) fun h8 N8 => ⟨_, rfl, ?_⟩⟩
  obtain ⟨l, el⟩ : ∃ b, b = h7.size := ⟨_, rfl⟩
  rw [← el] at N8 ⊢
  have I8 := I7.new N8
  obtain ⟨w9, N9⟩ := cell1_var h8 (.pointer none) (.pointer (some ⟨l, 0, none⟩)) T.T_p_links_List
  obtain ⟨b6, e6⟩ : ∃ b, b = h8.size := ⟨_, rfl⟩
  rw [← e6] at w9 N9 ⊢
  refine ⟨w9, ?_⟩
  generalize setC (Array.push h8 (.cells #[.pointer none] T.T_p_links_List)) ⟨b6, 0, none⟩ (.pointer (some ⟨l, 0, none⟩)) = h9 at N9 ⊢
  have I9 := (I8.new N9).swap.front4.swap.join
  intro J11 hJ11 L36 hL36
  -- behind the pushes
  have rest : ∀ (x : LS) (ha : Heap), x.st.n = 1 → Hold w.heap ha [lwR s l C1 Z x, cell1 b6 (.pointer (some ⟨l, 0, none⟩)), cell1 b5 (.pointer (some ⟨s, 0, none⟩)), cell1 b4 (.bool false), cell1 b3 (.slice p1 n1 cp1)] →
      J11 [.pointer (some ⟨b3, 0, none⟩), .pointer (some ⟨b4, 0, none⟩), .pointer (some ⟨b5, 0, none⟩), .pointer (some ⟨b6, 0, none⟩)] ha := by
    intro x ha hx1 Ia
    refine hJ11 _ _ _ _ _ ⟨_, cell1_get (Ia.at 1), all_ok (Ia.at 0) fun hb fp fc Sb => ⟨_, _, _, rfl, ?_⟩⟩
    have Ib := (Ia.step 0 Sb).split
    generalize hfirst : allL C1 x = first at Ib Sb ⊢
    obtain ⟨wf, Nf⟩ := cell1_var hb (.slice none 0 0) (.slice fp first.length fc) T.T_sl_uint64
    obtain ⟨bf, ef⟩ : ∃ b, b = hb.size := ⟨_, rfl⟩
    rw [← ef] at wf Nf ⊢
    generalize hhf' : Array.push hb (.cells #[.slice none 0 0] T.T_sl_uint64) = hf' at wf Nf ⊢
    generalize hhf : setC hf' ⟨bf, 0, none⟩ (.slice fp first.length fc) = hf at Nf ⊢
    obtain ⟨wk, Nk⟩ := cell1_var hf (.int .i64 0) (.int .i64 0) T.T_int
    obtain ⟨bk, ek⟩ : ∃ b, b = hf.size := ⟨_, rfl⟩
    rw [← ek] at wk Nk ⊢
    generalize hhk' : Array.push hf (.cells #[.int .i64 0] T.T_int) = hk' at wk Nk ⊢
    generalize hhk : setC hk' ⟨bk, 0, none⟩ (.int .i64 0) = hk at Nk ⊢
    obtain ⟨wn, Nn⟩ := cell1_var hk (.int .i64 0) (.int .i64 0) T.T_int
    obtain ⟨bn, en⟩ : ∃ b, b = hk.size := ⟨_, rfl⟩
    rw [← en] at wn Nn ⊢
    generalize hhn' : Array.push hk (.cells #[.int .i64 0] T.T_int) = hn' at wn Nn ⊢
    generalize hhn : setC hn' ⟨bn, 0, none⟩ (.int .i64 0) = hn at Nn ⊢
    refine ⟨wf, wk, wn, ?_⟩
    let R : WW := ⟨s, l, Z, b3, b4, b5, b6, bf, bk, bn, p1, n1, cp1, fp, fc, first, x⟩
    have I1 : Hold w.heap hn [wM R x 0 0 false] := by
      have I0 := ((Ib.new Nf).new Nk).new Nn
      have I1 := I0.swap.join.swap.join
      -- [bf ∧ (bk ∧ bn), lw, sl, c6, c5, c4, c3]
      exact I1.swap.join.swap.join.swap.join.swap.join.swap.join.swap.join
    refine ⟨_, w_6 (I1.at 0), links_List_All.call ?_⟩
    unfold links_List_All.vc
    have Nc := cell1_new hn (.pointer (some ⟨l, 0, none⟩)) T.T_p_links_List
    obtain ⟨cb, ec⟩ : ∃ b, b = hn.size := ⟨_, rfl⟩
    rw [← ec] at Nc ⊢
    generalize hhc : Array.push hn (.cells #[.pointer (some ⟨l, 0, none⟩)] T.T_p_links_List) = hc at Nc ⊢
    have I2 := I1.new Nc
    refine ⟨_, rfl, false, rfl, fun e => (by cases e), fun _ rec hrec hround => CallG_func (by kernel_rfl) (CallV.toR ?_)⟩
    have hr := rec_noC hrec .ready none
    have PE : (andR (andR (cell1 cb (.pointer (some ⟨l, 0, none⟩))) (wM R x 0 0 false)) (stsR p1 n1 f)).P hc := sts_of hrow I2.join.toNew
    have hroom : roomU C1 x.st = 256 := by unfold roomU; rw [hx1]; rfl
    have Y : Yd Try.prog w (.func (.yield (hc.size + 1)) #[] #[]) (fun y : WS => andR (objR (hc.size + 1) (rec .ready none)) (wM R y.lw y.n y.kk false)) (stsR p1 n1 f) (wok R) (gdU C1 fun y : WS => y.lw) (fwU C1 fun y : WS => y.lw) (wnx R) (fun _ _ => true) := by
      refine ⟨?_, rfl, fun k p b y z h1 h2 _ _ h3 => w_stay h1 h2 h3⟩
      rintro k p b ⟨x1, n, kk⟩ hB ⟨o1, o2, o3⟩ hgd hp HB
      have o1 : n + (k + 1) ≤ 256 := o1
      have o2 : kk ≤ n := o2
      obtain ⟨r1, r2, r3⟩ := round_out HB.1 hr (rec_noC hrec .busy none)
      have rE : (stsR p1 n1 f).P (setO hB (hc.size + 1) (rec .busy none)) := (stsR p1 n1 f).st HB.2.1 (setO_upd r1 hr (rec_noC hrec .busy none)) fun q e e' => HB.2.2 q (.inl e') e
      have rD : ∀ q, (wM R x1 n kk false).fp q → (stsR p1 n1 f).fp q → False := fun q e e' => HB.2.2 q (.inr e) e'
      refine hround p hB _ rfl r1 ⟨r1, ?_⟩
      generalize setO hB (hc.size + 1) (rec .busy none) = hb0 at r2 r3 rE ⊢
      have PE0 : (andR (wM R x1 n kk false) (stsR p1 n1 f)).P hb0 := ⟨r2, rE, rD⟩
      have close : ∀ (h4 : Heap) (y : WS), Stp hb0 h4 (wM R x1 n kk false) (wM R y.lw y.n y.kk false) → wnx R ⟨x1, n, kk⟩ p y → h4[hc.size + 1]? = some (rec .busy none) ∧ ((Value.bool true = Value.bool true) ∧ ∃ y' : WS, wnx R ⟨x1, n, kk⟩ p y' ∧
          Stp hB (setO h4 (hc.size + 1) (rec .ready none)) (andR (objR (hc.size + 1) (rec .ready none)) (wM R x1 n kk false)) (andR (objR (hc.size + 1) (rec .ready none)) (wM R y'.lw y'.n y'.kk false))) := by
        intro h4 y S hy
        obtain ⟨q1, q2⟩ := r3 h4 _ S
        exact ⟨q1, rfl, y, hy, q2 _ hr⟩
      refine ⟨_, cell1_get (w_n r2), fun J22 hJ22 => ?_⟩
      have body : J22 false hb0 := by
        refine hJ22 _ _ (iF rfl ⟨_, cell1_get (w_n r2), cell1_wr (w_n r2), ?_⟩)
        have ew : IntKind.wrap .i64 (((n : Nat) : Int) + 1) = ((n + 1 : Nat) : Int) := by rw [IntWalk.i64_in _ (by omega)]; omega
        rw [ew]
        have S2 := w_sn r2 (n + 1)
        generalize hh2 : setC hb0 ⟨R.bn, 0, none⟩ (.int .i64 ((n + 1 : Nat) : Int)) = h2 at S2
        have P2 := S2.p
        have PE2 := (S2.left PE0).p
        refine ⟨_, cell1_get (w_n P2), iF (decide_eq_false (by omega)) ⟨_, cell1_get (w_k P2), _, _, _, w_3 P2, ?_⟩⟩
        by_cases hk1 : kk < n1
        case neg =>
          refine iF (decide_eq_false (by show ¬ ((kk : Nat) : Int) < ((n1 : Nat) : Int); omega)) ?_
          exact close h2 ⟨x1, n + 1, kk⟩ S2 ⟨rfl, by show (if kk < n1 then _ else _); rw [if_neg hk1]; exact ⟨rfl, rfl⟩⟩
        have hnx : ∀ y : LS, wnx R ⟨x1, n, kk⟩ p ⟨y, n + 1, kk + 1⟩ := fun y => ⟨rfl, by show (if kk < n1 then _ else _); rw [if_pos hk1]⟩
        obtain ⟨a, ea, hcl⟩ := sts_at PE2.2.1 hk1
        obtain ⟨z0, z1, z2, z3⟩ := hcl _ rfl
        obtain ⟨up, uv⟩ := hu kk hk1
        obtain ⟨q4, N4⟩ := box4_ok h2 (.int .i64 0) (.int .i64 0) (.int .u64 0) (.int .u64 0) (.int .i64 (f kk).op) (.int .i64 (f kk).li) (.int .u64 (f kk).p) (.int .u64 (f kk).v) T.T_croftlaw3_Step
        refine iT (decide_eq_true (Int.ofNat_lt.2 hk1)) ⟨_, _, _, w_3 P2, _, cell1_get (w_k P2), a, ea, by omega, Int.ofNat_lt.2 hk1, _, z0, _, z1, _, z2, _, z3, q4, ?_⟩
        obtain ⟨bx, ebx⟩ : ∃ b, b = h2.size := ⟨_, rfl⟩
        rw [← ebx] at N4 ⊢
        generalize setCs (Array.push h2 (.cells #[.int .i64 0, .int .i64 0, .int .u64 0, .int .u64 0] T.T_croftlaw3_Step)) ⟨bx, 0, none⟩ 0 [.int .i64 (f kk).op, .int .i64 (f kk).li, .int .u64 (f kk).p, .int .u64 (f kk).v] = h4 at N4 ⊢
        have S4 := S2.trans (Stp.new P2 N4)
        have P4 := S4.p
        refine ⟨_, cell1_get (w_k P4.1), cell1_wr (w_k P4.1), ?_⟩
        have ewk : IntKind.wrap .i64 (((kk : Nat) : Int) + 1) = ((kk + 1 : Nat) : Int) := by rw [IntWalk.i64_in _ (by omega)]; omega
        rw [ewk]
        have S5 := S4.trans ((w_sk P4.1 (kk + 1)).left P4)
        generalize hh5 : setC h4 ⟨R.bk, 0, none⟩ (.int .i64 ((kk + 1 : Nat) : Int)) = h5 at S5
        have P5 := S5.p
        obtain ⟨y0, y1, y2, y3⟩ := f4_cells P5.2.1
        have S5' : Stp hb0 h5 (wM R x1 n kk false) (wM R x1 (n + 1) (kk + 1) false) := S5.conv (fun P => P.1) fun b e => .inl e
        have G5 := P5.1
        refine ⟨_, y0, ?_⟩
        have eop : (((BitVec.ofInt (IntKind.bits .i64) (f kk).op &&& BitVec.ofInt (IntKind.bits .i64) 3).toNat : Nat) : Int) = (f kk).op % 4 := and3 _
        rw [eop, IntWalk.i64_in _ (by omega)]
        generalize (f kk).op % 4 = m4
        refine ⟨fun _ => ⟨_, w_6 G5, _, y2, links_Push_ok up (w_lw G5) fun h6 T6 => ⟨_, rfl, close h6 ⟨(pushU C1 x1 (f kk).p).1, n + 1, kk + 1⟩ (S5'.trans (w_slw G5 T6)) (hnx _)⟩⟩, fun _ => ?_⟩
        refine ⟨fun _ => ⟨_, w_6 G5, _, y2, links_Remove_ok up (w_lw G5) fun h6 T6 => ⟨_, rfl, close h6 ⟨(removeU C1 x1 (f kk).p).1, n + 1, kk + 1⟩ (S5'.trans (w_slw G5 T6)) (hnx _)⟩⟩, fun _ => ?_⟩
        refine ⟨fun _ => ⟨_, w_5 G5, _, y2, _, y3, setany_ok up uv (w_lw G5).2.1 fun r st' h6 en T6 => ⟨_, rfl, close h6 ⟨⟨st', x1.hd⟩, n + 1, kk + 1⟩ (S5'.trans (w_slw G5 (T6.right (w_lw G5)))) (hnx _)⟩⟩, fun _ => ?_⟩
        refine ⟨fun _ => ⟨_, w_6 G5, links_Remove_ok hp (w_lw G5) fun h6 T6 => ⟨_, rfl, close h6 ⟨(removeU C1 x1 p).1, n + 1, kk + 1⟩ (S5'.trans (w_slw G5 T6)) (hnx _)⟩⟩, fun _ => ?_⟩
        exact close h5 ⟨x1, n + 1, kk + 1⟩ S5' (hnx _)
      rcases Nat.eq_zero_or_pos n with hn0 | hn0
      · -- the first one
        subst hn0
        have hk0 : kk = 0 := by omega
        subst hk0
        obtain ⟨e1, done, e2, e3⟩ := o3 rfl
        have e1 : x1 = x := e1
        have e2 : done.length = 0 := e2
        have e3 : first = done ++ walkL C1 x.st (k + 1) p b := e3
        have hd : done = [] := List.length_eq_zero_iff.1 e2
        have hg : ((p == 0 || !x1.st.th C1 p 16) || (lk2 x1.st C1 p != b)) = false := hgd
        rw [e1] at hg
        have e4 : first = p :: walkL C1 x.st k (lk1 x.st C1 p) p := by
          rw [e3, hd]
          simp only [walkL, hg, cond_false, List.nil_append]
        refine qT rfl ⟨_, _, _, w_f r2, fun J33 hJ33 => ?_⟩
        have hlen : 0 < first.length := by rw [e4]; simp
        obtain ⟨bq, eq, hcq⟩ := sl_cell (w_sl r2) (i := 0) (by show 0 < first.length * 1; omega)
        have hcq : cellAt hb0 ⟨bq, 0, none⟩ = some (.int .u64 p) := by
          rw [hcq]
          show some (uL first 0) = _
          rw [e4]; rfl
        refine pF (beq_false_of_ne (by show ((first.length : Nat) : Int) ≠ 0; omega)) ⟨_, _, _, w_f r2, ⟨bq, 0, none⟩, eq, by omega, by show (0 : Int) < ((first.length : Nat) : Int); omega, _, hcq, ?_⟩
        rw [show (p != p) = false by simp]
        exact hJ33 _ _ body
      · exact qF' (beq_false_of_ne (by show ((n : Nat) : Int) ≠ 0; omega)) body
    have Hin := range_in (M := wM R x 0 0 false) PE.1.2.1 hr
    have u : Upd (fun _ => False) hc ((hc.push (.deferred (some []))).push (rec .ready none)) := (push_upd _ hc _ (noC_fz (o := .deferred (some [])) trivial)).nx (push_upd _ _ _ (noC_fz hr)) fun _ e _ => e
    have Hw : (andR (andR (blkR cb 1 fun _ => .pointer (some ⟨l, 0, none⟩)) (andR (objR (hc.size + 1) (rec .ready none)) (wM R x 0 0 false))) (stsR p1 n1 f)).P ((hc.push (.deferred (some []))).push (rec .ready none)) := by
      have cbl := (cell1 cb (.pointer (some ⟨l, 0, none⟩))).lt PE.1.1
      have exl := (stsR p1 n1 f).lt PE.2.1
      refine ⟨⟨(cell1 cb _).st PE.1.1 u fun _ _ => id, Hin, fun b e e' => ?_⟩, (stsR p1 n1 f).st PE.2.1 u fun _ _ => id, fun b e e' => ?_⟩
      · have := cbl b e
        rcases e' with e' | e'
        · have e' : b = hc.size + 1 := e'; omega
        · exact PE.1.2.2 b e e'
      · have := exl b e'
        rcases e with e | e | e
        · exact PE.2.2 b (.inl e) e'
        · have e : b = hc.size + 1 := e; omega
        · exact PE.2.2 b (.inr e) e'
    have hok : wok R (roomU C1 x.st) x.hd 0 ⟨x, 0, 0⟩ := ⟨by show 0 + roomU C1 x.st ≤ 256; omega, Nat.le_refl _, fun _ => ⟨rfl, [], rfl, by show first = [] ++ _; rw [List.nil_append]; exact hfirst.symm⟩⟩
    refine links_All_1_ok (V := fun y : WS => y.lw) Y (fun y h' P => ⟨(w_lw P.2.1).1, Z, (w_lw P.2.1).2.1⟩) (σ := ⟨x, 0, 0⟩) (l := l) (s := s) hok (by rfl) Hw fun τ h5 hw S5 => ?_
    obtain ⟨o1, o2⟩ := range_out PE.1.2.1 hr hr S5
    have hend := WalkR_end (ok := wok R) (U := fun _ => True) (fun _ _ _ _ _ => trivial) (fun k p b y z h1 h2 _ _ h3 => w_stay h1 h2 h3) _ _ _ _ _ hok hw
    have S6 := o2 (rec .exhausted none) (rec_noC hrec _ _)
    refine ⟨.ready, none, o1, by simp, ?_⟩
    simp only [afterR]
    generalize setO h5 (hc.size + 1) (rec .exhausted none) = hA at S6 ⊢
    have P6 := S6.p
    have G6 := P6.2.1
    have hlast : τ.kk = 0 → first.length = τ.n := by
      intro h0
      rcases hend with ⟨k', p', b', ⟨q1, q2, q3⟩, hs⟩ | ⟨k', p', b', σ', _, _, _, hgo⟩
      · obtain ⟨e1, done, e2, e3⟩ := q3 h0
        have e3 : first = done ++ walkL C1 x.st k' p' b' := e3
        have hz : walkL C1 x.st k' p' b' = [] := by
          rcases hs with hs | hs
          · subst hs; rfl
          · cases k' with
            | zero => rfl
            | succ k' =>
              have hs : ¬ ((p' == 0 || !τ.lw.st.th C1 p' 16) || (lk2 τ.lw.st C1 p' != b')) = false := hs
              rw [e1] at hs
              have hs : ¬ ((p' == 0 || !x.st.th C1 p' 16) || (lk2 x.st C1 p' != b')) = false := hs
              simp only [walkL]
              cases hc : ((p' == 0 || !x.st.th C1 p' 16) || (lk2 x.st C1 p' != b'))
              · exact absurd hc hs
              · rfl
        rw [e3, hz]; simpa using e2
      · cases hgo
    refine ⟨_, cell1_get (w_n G6), _, _, _, w_f G6, fun J34 hJ34 => ?_⟩
    have fin : J34 true hA := by
      refine hJ34 _ _ ⟨cell1_wr (w_4 G6), ?_⟩
      have S7 := S6.trans ((w_s4 G6 true).right P6)
      obtain ⟨t1, t2⟩ := take_out S7
      refine ⟨t1, _, cell1_get (w_4 t2.p), hfin _ ?_⟩
      exact (I2.join.toNew.stp (t2.right I2.join.toNew.p)).u
    by_cases hge : first.length ≤ τ.n
    · exact pT (decide_eq_true (by show ((τ.n : Nat) : Int) ≥ ((first.length : Nat) : Int); omega)) fin
    · refine pF (decide_eq_false (by show ¬ ((τ.n : Nat) : Int) ≥ ((first.length : Nat) : Int); omega)) ⟨_, cell1_get (w_k G6), ?_⟩
      have : τ.kk ≠ 0 := fun e => hge (by rw [hlast e]; exact Nat.le_refl _)
      rw [decide_eq_true (show ((τ.kk : Nat) : Int) > 0 by omega)]
      exact fin
  -- the pushes
  have loop : ∀ (k i : Nat) (x : LS) (ha : Heap), i + k = n0 → x.st.n = 1 → Hold w.heap ha [lwR s l C1 Z x, cell1 b6 (.pointer (some ⟨l, 0, none⟩)), cell1 b5 (.pointer (some ⟨s, 0, none⟩)), cell1 b4 (.bool false), cell1 b3 (.slice p1 n1 cp1)] →
      L36 [.slice p0 n0 cp0, .pointer (some ⟨b3, 0, none⟩), .pointer (some ⟨b4, 0, none⟩), .pointer (some ⟨b5, 0, none⟩), .pointer (some ⟨b6, 0, none⟩), .int .i64 ((i : Nat) : Int)] ha := by
    intro k
    induction k with
    | zero =>
      intro i x ha hi hx Ia
      refine hL36 _ _ _ _ _ _ _ _ _ (jand.2 ?_)
      rw [decide_eq_false (show ¬ ((i : Nat) : Int) < ((n0 : Nat) : Int) by omega)]
      exact ⟨fun e => (by cases e), fun _ => rest x ha hx Ia⟩
    | succ k ih =>
      intro i x ha hi hx Ia
      refine hL36 _ _ _ _ _ _ _ _ _ (jand.2 ?_)
      rw [decide_eq_true (show ((i : Nat) : Int) < ((n0 : Nat) : Int) by omega)]
      by_cases h60 : ((i : Nat) : Int) < 60
      case neg =>
        rw [decide_eq_false h60]
        exact ⟨fun e => (by cases e), fun _ => rest x ha hx Ia⟩
      rw [decide_eq_true h60]
      refine ⟨fun _ => ?_, fun e => by cases e⟩
      have grow := gr.upd Ia.u fun _ _ => id
      rcases grow with grow | ⟨bb, o, rfl, grow⟩
      · omega
      refine ⟨_, cell1_get (Ia.at 1), _, rfl, by omega, Int.ofNat_lt.2 (by omega), g i, by simp only [add_mk, Int.toNat_natCast, Nat.mul_one]; exact grow i (by omega), cell_ok ⟨_, rfl, cell1_get (Ia.at 1), ?_⟩⟩
      have hcell := cellU_cell (g i)
      refine links_Push_ok (cell_u64 hcell) (Ia.at 0) fun hb Sb => ⟨_, rfl, iF (beq_false_of_ne (push_there (cell_th hx hcell))) ?_⟩
      rw [IntWalk.i64_in _ (by omega)]
      have := ih (i + 1) _ hb (by omega) (by rw [pushU_n]; exact hx) (Ia.step 0 Sb)
      simpa using this
  exact loop n0 0 v0 h9 (by omega) rfl I9
end
end Go.Proofs.Ytfijahblggnbbaa
