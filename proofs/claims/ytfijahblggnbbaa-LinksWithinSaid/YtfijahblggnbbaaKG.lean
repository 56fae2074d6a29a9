/- croftlaw3: step. No condition. -/
import Derived.Test.YtfijahblggnbbaaKF
set_option linter.unusedSimpArgs false
set_option linter.unusedVariables false
set_option maxHeartbeats 1000000
namespace Go.Proofs.Ytfijahblggnbbaa
open Go.V Classical

section
variable {w₀ : World} {h : Heap} {W : PW} {σ : PS} {K : Value → Heap → Prop}

theorem step_ok {op li p v : Int} (hp : U64 p) (hv : U64 v) (H : (psR W σ).P h)
    (hK : ∀ σ' h', σ'.st.n = σ.st.n → (op ≠ 6 ∨ kU li ≠ 0 → σ'.lb 0 = σ.lb 0) → Stp h h' (psR W σ) (psR W σ') → K (.bool true) h') :
    CallV Try.prog w₀ F.croftlaw3_step [.pointer (some ⟨W.s, 0, none⟩), rsv W.c σ.st.n W.mp W.mc, .pointer (some ⟨W.bm, 0, none⟩), .pointer (some ⟨W.bh, 0, none⟩), .agg #[.int .i64 op, .int .i64 li, .int .u64 p, .int .u64 v]] h K := by
  refine croftlaw3_step.call ?_
  unfold croftlaw3_step.vc
  have u0 : Upd NoB h (HP h W.c σ.st.n W.mp W.mc) := HP_upd
  have N1 := New.box (HP h W.c σ.st.n W.mp W.mc) #[.int .i64 op, .int .i64 li, .int .u64 p, .int .u64 v] T.T_croftlaw3_Step
  have hs0 : (HP h W.c σ.st.n W.mp W.mc).size = h.size + 1 := by simp [HP]
  generalize hx9 : (HP h W.c σ.st.n W.mp W.mc).size = x9 at N1 hs0
  generalize hh1 : Array.push (HP h W.c σ.st.n W.mp W.mc) (.cells #[.int .i64 op, .int .i64 li, .int .u64 p, .int .u64 v] T.T_croftlaw3_Step) = h1 at N1 ⊢
  have S1 : Stp h h1 (psR W σ) (psR W σ) := (Stp.quiet H u0).trans (Stp.quiet (Stp.quiet H u0).p N1.u)
  have P1 := S1.p
  have n0 : ¬ (psR W σ).fp h.size := fun e => by have := (psR W σ).lt H _ e; omega
  have n9 : ¬ (psR W σ).fp x9 := fun e => by have := (psR W σ).lt H _ e; omega
  -- the parameters, wherever they stand
  have c6 : ∀ {h2 : Heap}, Upd (psR W σ).fp h1 h2 → _ := fun {h2} u => HP_cells (h := h) (c := W.c) (n := σ.st.n) (mp := W.mp) (mc := W.mc) ((N1.u.mono fun _ e _ => e.elim : Upd (psR W σ).fp _ h1).nx u fun _ e _ => e) n0
  have c9 : ∀ {h2 : Heap}, Upd (psR W σ).fp h1 h2 → cellAt h2 ⟨x9, 0, none⟩ = some (.int .i64 op) ∧ cellAt h2 ⟨x9, 1, none⟩ = some (.int .i64 li) ∧ cellAt h2 ⟨x9, 2, none⟩ = some (.int .u64 p) ∧ cellAt h2 ⟨x9, 3, none⟩ = some (.int .u64 v) := by
    intro h2 u
    have B := (blkR _ _ _).st N1.p u fun b e => by have e : b = x9 := e; rw [e]; exact n9
    exact ⟨B.cell (i := 0) (by simp), B.cell (i := 1) (by simp), B.cell (i := 2) (by simp), B.cell (i := 3) (by simp)⟩
  have fin : ∀ (lb : Nat → Nat) (hd : Nat → Int) (st : Sto) (h2 : Heap), st.n = σ.st.n → (op ≠ 6 ∨ kU li ≠ 0 → lb 0 = σ.lb 0) → Stp h1 h2 (psR W σ) (QR W lb lb hd hd st st) → K (.bool true) h2 :=
    fun lb hd st h2 e1 e2 S2 => hK ⟨lb, hd, st⟩ h2 e1 e2 (S1.trans S2)
  refine ⟨_, (c9 (Upd.refl _ _)).2.1, fun J3 hJ3 => ?_⟩
  have core : J3 [.pointer (some ⟨W.s, 0, none⟩), .pointer (some ⟨W.bm, 0, none⟩), .pointer (some ⟨W.bh, 0, none⟩), .pointer (some ⟨h.size, 0, none⟩), .pointer (some ⟨x9, 0, none⟩), .int .i64 ((kU li : Nat) : Int)] h1 := by
    have hk := kU_lt li
    generalize kU li = k at hk fin ⊢
    have ea : ∀ b : Nat, ((⟨b, 0, none⟩ : Addr).add (Int.toNat ((k : Nat) : Int) * 1)) = ⟨b, k, none⟩ := fun b => by simp only [add_mk, Int.toNat_natCast, Nat.mul_one, Nat.zero_add]
    have hk3 : ((k : Nat) : Int) < ((3 : Nat) : Int) := Int.ofNat_lt.2 hk
    have hk0 : (0 : Int) ≤ ((k : Nat) : Int) := by omega
    obtain ⟨d0, d1, d2, d3⟩ := c9 (Upd.refl _ _)
    obtain ⟨a0, a1, a2, a3⟩ := c6 (Upd.refl _ _)
    refine hJ3 _ _ _ _ _ _ _ ⟨_, rfl, hk0, hk3, _, by rw [ea]; exact q_mine P1 hk, _, d0, ?_⟩
    simp only [ea]
    -- Push
    refine ⟨fun e0 => ?_, fun e0 => ?_⟩
    · have hop : op ≠ 6 := by simp at e0; omega
      refine ⟨_, a0, _, a1, _, a2, _, _, _, a3, _, rfl, hk0, hk3, _, (ea W.bh).symm ▸ q_head P1 hk, _, d2, ?_⟩
      refine ref3_Push_ok (q_hu P1 hk) hp P1.2.1.2.1 fun h2 T2 => ⟨_, _, rfl, ?_⟩
      have S2 := q_ref P1 T2
      obtain ⟨w2, T3⟩ := q_seth S2.p hk (pushU W.c ⟨σ.st, σ.hd k⟩ p).1.hd
      refine ⟨_, rfl, hk0, hk3, (ea W.bh).symm ▸ w2, ?_⟩
      simp only [ea]
      have S3 := S2.trans T3
      refine ⟨_, (c9 S3.u).2.2.1, links_Push_ok hp (q_list S3.p hk) fun h4 T4 => ⟨_, rfl, ?_⟩⟩
      have S4 := S3.trans (q_lift S3.p hk T4)
      rw [beq_self_eq_true]
      exact fin _ _ _ h4 (pushU_n _ _ _) (fun _ => rfl) S4
    -- Pop
    refine ⟨fun e1 => ?_, fun e1 => ?_⟩
    · have hop : op ≠ 6 := by simp at e1; omega
      refine ⟨_, a0, _, a1, _, a2, _, _, _, a3, _, rfl, hk0, hk3, _, (ea W.bh).symm ▸ q_head P1 hk, ?_⟩
      refine ref3_Pop_ok (q_hu P1 hk) P1.2.1.2.1 fun h2 T2 => ⟨_, _, _, rfl, ?_⟩
      have S2 := q_ref P1 T2
      obtain ⟨w2, T3⟩ := q_seth S2.p hk (popU W.c ⟨σ.st, σ.hd k⟩).1.hd
      refine ⟨_, rfl, hk0, hk3, (ea W.bh).symm ▸ w2, ?_⟩
      simp only [ea]
      have S3 := S2.trans T3
      refine links_Pop_ok (q_list S3.p hk) fun h4 T4 => ⟨_, _, rfl, jand.2 ?_⟩
      have S4 := S3.trans (q_lift S3.p hk T4)
      rw [beq_self_eq_true, beq_self_eq_true]
      exact fin _ _ _ h4 (popU_n _ _) (fun _ => rfl) S4
    -- Remove
    refine ⟨fun e2 => ?_, fun e2 => ?_⟩
    · have hop : op ≠ 6 := by simp at e2; omega
      refine ⟨_, a0, _, a1, _, a2, _, _, _, a3, _, rfl, hk0, hk3, _, (ea W.bh).symm ▸ q_head P1 hk, _, d2, ?_⟩
      refine ref3_Remove_ok (q_hu P1 hk) hp P1.2.1.2.1 fun h2 T2 => ⟨_, _, rfl, ?_⟩
      have S2 := q_ref P1 T2
      obtain ⟨w2, T3⟩ := q_seth S2.p hk (removeU W.c ⟨σ.st, σ.hd k⟩ p).1.hd
      refine ⟨_, rfl, hk0, hk3, (ea W.bh).symm ▸ w2, ?_⟩
      simp only [ea]
      have S3 := S2.trans T3
      refine ⟨_, (c9 S3.u).2.2.1, links_Remove_ok hp (q_list S3.p hk) fun h4 T4 => ⟨_, rfl, ?_⟩⟩
      have S4 := S3.trans (q_lift S3.p hk T4)
      rw [beq_self_eq_true]
      exact fin _ _ _ h4 (removeU_n _ _ _) (fun _ => rfl) S4
    -- Head
    refine ⟨fun e3 => ?_, fun e3 => ?_⟩
    · have hop : op ≠ 6 := by simp at e3; omega
      refine ⟨_, rfl, hk0, hk3, _, (ea W.bh).symm ▸ q_head P1 hk, links_Head_ok (q_list P1 hk).1 ⟨_, rfl, (ea W.bh).symm ▸ q_head P1 hk, ?_⟩⟩
      rw [beq_self_eq_true]
      exact fin _ _ _ h1 rfl (fun _ => rfl) (Stp.refl P1)
    -- All
    refine ⟨fun e4 => ?_, fun e4 => ?_⟩
    · have hop : op ≠ 6 := by simp at e4; omega
      have N2 := New.box h1 #[(.int .i64 (0 : Int))] T.T_int
      have hgen : ∃ nb, nb = h1.size := ⟨_, rfl⟩
      obtain ⟨nb, hnb⟩ := hgen
      have B2 : Blk (Array.push h1 (.cells #[(.int .i64 (0 : Int))] T.T_int)) nb 1 (fun j => (#[(.int .i64 (0 : Int))] : Array Value).getD j undef) := by rw [hnb]; exact N2.p
      have S2 := Stp.new P1 N2
      rw [← hnb] at S2
      have setn : ∀ (x : Int) (hx : Heap) (f : Nat → Value), Blk hx nb 1 f → Stp hx (setC hx ⟨nb, 0, none⟩ (.int .i64 x)) (blkR nb 1 f) (blkR nb 1 fun _ => .int .i64 x) := fun x hx f B =>
        Stp.set B 0 (.int .i64 x) fun j hj => by rw [if_pos (by omega)]
      rw [← hnb]
      refine ⟨B2.wr (by omega), fun J17 hJ17 => ?_⟩
      have S3 := S2.trans ((setn 1048576 _ _ B2).right S2.p)
      have B3 := S3.p.2.1
      obtain ⟨d0, d1, d2, d3⟩ := c9 S3.u
      -- the range, so many at most
      have core4 : ∀ (m : Nat) (h2 : Heap), m ≤ 1048576 → ((m : Nat) : Int) = (if v < 1048576 then v else 1048576) → Stp h1 h2 (psR W σ) (andR (psR W σ) (blkR nb 1 fun _ => .int .i64 ((m : Nat) : Int))) →
          J17 [.pointer (some ⟨W.bh, 0, none⟩), .pointer (some ⟨h.size, 0, none⟩), .int .i64 ((k : Nat) : Int), .pointer (some ⟨σ.lb k, 0, none⟩), .pointer (some ⟨nb, 0, none⟩)] h2 := by
        intro m h2 hm _ S2
        have P2 := S2.p
        refine hJ17 _ _ _ _ _ _ ?_
        have N3 := New.box h2 #[.slice none 0 0] T.T_sl_uint64
        have hgen : ∃ ob, ob = h2.size := ⟨_, rfl⟩
        obtain ⟨ob, hob⟩ := hgen
        generalize hh3 : Array.push h2 (.cells #[.slice none 0 0] T.T_sl_uint64) = h3 at N3 ⊢
        rw [← hob] at N3 ⊢
        have N3' : New h2 h3 (outR ob ⟨[], none, 0⟩) := by
          refine ⟨N3.u, ⟨Blk.congr N3.p fun i hi => ?_, sl_nil 1 _ h3, fun b e e' => sl_nil_fp b e'⟩, fun b e => e.elim (N3.g b) fun e => absurd e (sl_nil_fp b)⟩
          have hi : i < 1 := hi
          have : i = 0 := by omega
          subst this; rfl
        have S3 := S2.trans (Stp.new P2 N3')
        refine links_List_All.call ?_
        unfold links_List_All.vc
        have N4 := New.box h3 #[.pointer (some ⟨σ.lb k, 0, none⟩)] T.T_p_links_List
        generalize hh4 : Array.push h3 (.cells #[.pointer (some ⟨σ.lb k, 0, none⟩)] T.T_p_links_List) = h4 at N4 ⊢
        refine ⟨_, rfl, false, rfl, fun e => (by cases e), fun _ rec hrec hround => CallG_func (by kernel_rfl) (CallV.toR ?_)⟩
        let M : OutS → Res := fun o => andR (andR (psR W σ) (blkR nb 1 fun _ => .int .i64 ((m : Nat) : Int))) (outR ob o)
        have S4 : Stp h1 h4 (psR W σ) (M ⟨[], none, 0⟩) := S3.trans (Stp.quiet S3.p N4.u)
        let stt : Bool → Obj := fun e => if e then rec .done (some (.exit 1)) else rec .ready none
        have hst : ∀ e, noC (stt e) := fun e => by cases e <;> exact rec_noC hrec _ _
        have Y : Yd Try.prog w₀ (.func (.yield (h4.size + 1)) #[] #[]) (fun x : OutS × Bool => andR (objR (h4.size + 1) (stt x.2)) (M x.1)) noR (fun _ _ _ x => x.1.xs.length ≤ m ∧ x.2 = false)
            (gdU W.c fun _ : OutS × Bool => ⟨σ.st, σ.hd k⟩) (fwU W.c fun _ : OutS × Bool => ⟨σ.st, σ.hd k⟩)
            (fun a q z => if a.1.xs.length = m then z = (a.1, true) else z.1.xs = a.1.xs ++ [q] ∧ z.2 = false) (fun a _ => decide (a.1.xs.length ≠ m)) := by
          refine ⟨?_, rfl, ?_⟩
          · rintro n q _ ⟨o, e⟩ hB ⟨ho, rfl⟩ _ hq HB
            have ho : o.xs.length ≤ m := ho
            obtain ⟨r1, r2, r3⟩ := round_out HB.1 (hst false) (rec_noC hrec .busy none)
            refine hround q hB _ trivial r1 ⟨r1, o.p, o.xs.length, o.cap, r2.2.1.1.cell (i := 0) (by omega), _, r2.1.2.1.cell (i := 0) (by omega), ?_⟩
            by_cases he : o.xs.length = m
            · obtain ⟨r4, r5⟩ := r3 _ (M o) (Stp.refl r2)
              refine iT (by simp [he]) ⟨r4, by simp [he], (o, true), by rw [if_pos he], r5 (stt true) (hst true)⟩
            · refine iF (beq_false_of_ne (by omega)) ⟨o.p, o.xs.length, o.cap, ?_⟩
              obtain ⟨b1, os, xs, b2, b3⟩ := out_app (e := q) r2.2.1 (by omega)
              refine ⟨b1, os, xs, b2, fun p' c' h5 hres => ?_⟩
              obtain ⟨b4, b5⟩ := b3 p' c' h5 hres
              obtain ⟨r4, r5⟩ := r3 _ (M ⟨o.xs ++ [q], p', c'⟩) (b5.right r2)
              exact ⟨b4, r4, by simp [he], (⟨o.xs ++ [q], p', c'⟩, false), by rw [if_neg he]; exact ⟨rfl, rfl⟩, r5 (stt false) (hst false)⟩
          · rintro n q _ ⟨o, e⟩ ⟨o', e'⟩ ⟨ho, _⟩ _ _ hg hx
            have ho : o.xs.length ≤ m := ho
            have hg : o.xs.length ≠ m := by simpa using hg
            have hx : (if o.xs.length = m then (o', e') = (o, true) else o'.xs = o.xs ++ [q] ∧ e' = false) := hx
            rw [if_neg hg] at hx
            refine ⟨?_, hx.2⟩
            show o'.xs.length ≤ m
            rw [hx.1]; simp; omega
        have Hin := range_in S4.p (hst false)
        have W2 : (blkR h3.size 1 fun j => (#[.pointer (some ⟨σ.lb k, 0, none⟩)] : Array Value).getD j undef).P h4 := N4.p
        have Hw : (andR (blkR h3.size 1 fun j => (#[.pointer (some ⟨σ.lb k, 0, none⟩)] : Array Value).getD j undef) (andR (objR (h4.size + 1) (stt false)) (M ⟨[], none, 0⟩))).P ((h4.push (.deferred (some []))).push (stt false)) := by
          have u : Upd (fun _ => False) h4 ((h4.push (.deferred (some []))).push (stt false)) := (push_upd _ h4 _ (noC_fz (o := .deferred (some [])) trivial)).nx (push_upd _ _ _ (noC_fz (hst false))) fun _ e _ => e
          refine ⟨(blkR h3.size 1 _).st W2 u fun _ _ => id, Hin, fun b e e' => ?_⟩
          have e : b = h3.size := e
          have hs2 : h4.size = h3.size + 1 := by rw [← hh4]; simp
          rcases e' with e' | e'
          · have e' : b = h4.size + 1 := e'; omega
          · have := (M ⟨[], none, 0⟩).lt S3.p b e'
            omega
        refine links_All_1_ok (V := fun _ : OutS × Bool => ⟨σ.st, σ.hd k⟩) Y (fun x h' P => ⟨(q_list P.2.1.1.1 hk).1, W.Z, (q_list P.2.1.1.1 hk).2.1⟩) (σ := (⟨[], none, 0⟩, false)) ⟨Nat.zero_le _, rfl⟩ (by rfl) (andNo Hw) fun z h5 hw S5 => ?_
        have hxs := walkR_bound _ _ _ _ _ (by simp) hw
        obtain ⟨o, e⟩ := z
        have hox : o.xs = (walkL W.c σ.st (roomU W.c σ.st) (σ.hd k) 0).take m := by simpa using hxs
        clear hxs
        obtain ⟨o1, o2⟩ := range_out S4.p (hst false) (hst e) S5
        have S6a := fun pe => S4.trans (o2 (rec .exhausted pe) (rec_noC hrec _ _))
        cases e
        · refine ⟨.ready, none, o1, by simp, ?_⟩
          have S6 := S6a none
          simp only [afterR]
          generalize setO h5 (h4.size + 1) (rec .exhausted none) = hA at S6 ⊢
          have P6 := S6.p
          obtain ⟨a0, a1, a2, a3⟩ := c6 S6.u
          refine ⟨o.p, o.xs.length, o.cap, P6.2.1.2.1.1.cell (i := 0) (by omega), _, a0, _, a1, _, a2, _, _, _, a3, _, rfl, hk0, hk3, _, (ea W.bh).symm ▸ q_head P6.2.1.1.1 hk, _, P6.2.1.1.2.1.cell (i := 0) (by omega), ?_⟩
          refine ref3_All_ok (m := m) (q_hu P6.2.1.1.1 hk) (by omega) P6.2.1.1.1.2.1.2.1 fun h6 p6 cap6 ys hys T6 => ⟨_, _, _, rfl, ?_⟩
          have S7 := S6.trans (((((T6.right P6.2.1.1.1.2.1).right P6.2.1.1.1).left P6.2.1.1).left P6.2.1).right P6)
          have P7 := S7.p
          have Ro : Row h6 o.p o.xs.length (uL o.xs) := by have := sl_row P7.2.1.2.1.2.1; simpa using this
          have Ry : Row h6 p6 ys.length (uL ys) := by have := sl_row P7.2.1.1.1.2.1.2.1.2.1; simpa using this
          have hol : o.xs.length ≤ m := by rw [hox, List.length_take]; exact Nat.min_le_left _ _
          have hxy : o.xs = ys := (hox.trans (walkL_take _ _ _ _ _ _).symm).trans hys.symm
          refine ⟨P7.2.1.2.1.1.cell (i := 0) (by omega), same_ok (by omega) Ro Ry ⟨_, rfl, ?_⟩⟩
          obtain ⟨t1, t2⟩ := take_out S7
          rw [decide_eq_true hxy]
          refine ⟨t1, fin σ.lb σ.hd σ.st _ rfl (fun _ => rfl) (t2.conv (fun P => ⟨P.1.1.1, ⟨P.1.1.2.1.1, P.1.1.2.1.2.1.1, fun b e e' => P.1.1.2.1.2.2 b e (.inl e')⟩, fun b e e' => P.1.1.2.2 b e (e'.imp id .inl)⟩) fun b e => ?_)⟩
          exact .inl (.inl (e.imp id fun e => e.imp id .inl))
        · refine ⟨.done, some (.exit 1), o1, by simp, .inl ⟨rfl, ?_⟩⟩
          have S6 := S6a (some (.exit 1))
          generalize setO h5 (h4.size + 1) (rec .exhausted (some (.exit 1))) = hA at S6 ⊢
          have P6 := S6.p
          obtain ⟨a0, a1, a2, a3⟩ := c6 S6.u
          refine ⟨o.p, o.xs.length, o.cap, P6.2.1.2.1.1.cell (i := 0) (by omega), _, a0, _, a1, _, a2, _, _, _, a3, _, rfl, hk0, hk3, _, (ea W.bh).symm ▸ q_head P6.2.1.1.1 hk, _, P6.2.1.1.2.1.cell (i := 0) (by omega), ?_⟩
          refine ref3_All_ok (m := m) (q_hu P6.2.1.1.1 hk) (by omega) P6.2.1.1.1.2.1.2.1 fun h6 p6 cap6 ys hys T6 => ⟨_, _, _, rfl, ?_⟩
          have S7 := S6.trans (((((T6.right P6.2.1.1.1.2.1).right P6.2.1.1.1).left P6.2.1.1).left P6.2.1).right P6)
          have P7 := S7.p
          have Ro : Row h6 o.p o.xs.length (uL o.xs) := by have := sl_row P7.2.1.2.1.2.1; simpa using this
          have Ry : Row h6 p6 ys.length (uL ys) := by have := sl_row P7.2.1.1.1.2.1.2.1.2.1; simpa using this
          have hol : o.xs.length ≤ m := by rw [hox, List.length_take]; exact Nat.min_le_left _ _
          have hxy : o.xs = ys := (hox.trans (walkL_take _ _ _ _ _ _).symm).trans hys.symm
          refine ⟨P7.2.1.2.1.1.cell (i := 0) (by omega), same_ok (by omega) Ro Ry ⟨_, rfl, ?_⟩⟩
          obtain ⟨t1, t2⟩ := take_out S7
          rw [decide_eq_true hxy]
          refine ⟨t1, fin σ.lb σ.hd σ.st _ rfl (fun _ => rfl) (t2.conv (fun P => ⟨P.1.1.1, ⟨P.1.1.2.1.1, P.1.1.2.1.2.1.1, fun b e e' => P.1.1.2.1.2.2 b e (.inl e')⟩, fun b e e' => P.1.1.2.2 b e (e'.imp id .inl)⟩) fun b e => ?_)⟩
          exact .inl (.inl (e.imp id fun e => e.imp id .inl))
      refine ⟨_, d3, fun hlt => ?_, fun hlt => ?_⟩
      · have hlt : v < 1048576 := of_decide_eq_true hlt
        refine ⟨_, d3, B3.wr (by omega), ?_⟩
        have ev : IntKind.wrap .i64 v = ((v.toNat : Nat) : Int) := by rw [IntWalk.i64_in _ (by have := hv.1; omega)]; have := hv.1; omega
        rw [ev]
        exact core4 v.toNat _ (by omega) (by rw [if_pos hlt]; have := hv.1; omega) (S3.trans ((setn _ _ _ B3).right S3.p))
      · have hlt : ¬ v < 1048576 := of_decide_eq_false hlt
        exact core4 1048576 _ (by omega) (by rw [if_neg hlt]; rfl) S3
    -- Word
    refine ⟨fun e5 => ?_, fun e5 => ?_⟩
    · have hop : op ≠ 6 := by simp at e5; omega
      refine ⟨_, d2, _, d3, ?_⟩
      have there : ∀ (h2 : Heap) (r : Int) (lb lb2 : Nat → Nat) (hd hd2 : Nat → Int) (st : Sto) (K2 : Bool → Heap → Prop), Stp h1 h2 (psR W σ) (QR W lb lb2 hd hd2 st σ.st) → (∀ h3, Stp h1 h3 (psR W σ) (QR W lb lb2 hd hd2 st σ.st) → K2 (σ.st.th W.c p 8) h3) →
          CallV Try.prog w₀ F.croftref2_There [rsv W.c σ.st.n W.mp W.mc, .int .u64 p, .int .u64 8] h2 fun v178 h178 => ∃ r178 : Bool, v178 = .bool r178 ∧ K2 r178 h178 := by
        intro h2 r lb lb2 hd hd2 st K2 S2 hK2
        refine ref2_There_ok hp (by omega) S2.p.2.1.2.1 fun h3 u3 => ⟨_, rfl, ?_⟩
        have e : decide (There W.c σ.st.n p 8) = σ.st.th W.c p 8 := by rw [Bool.eq_iff_iff, decide_eq_true_eq, th_iff]
        rw [e]
        exact hK2 h3 (S2.trans (Stp.quiet S2.p u3))
      cases t : σ.st.th W.c p 8
      · refine mem_SetWord_ok hp hv P1.1.2.1 (fun t' => absurd (th_iff.2 t') (by rw [t]; simp)) fun _ h2 u2 => ⟨_, rfl, ?_⟩
        have S2 := (Stp.refl P1).trans (Stp.quiet P1 u2)
        obtain ⟨a0, a1, a2, a3⟩ := c6 S2.u
        refine ⟨_, a0, _, a1, _, a2, _, _, _, a3, _, (c9 S2.u).2.2.1, there h2 4 _ _ _ _ _ _ S2 fun h3 S3 => ?_⟩
        rw [t]
        exact ⟨fun e => (by cases e), fun _ => fin _ _ _ h3 rfl (fun _ => rfl) S3⟩
      · refine setw_ok hp hv t P1.1.2.1 fun h2 T2 => ⟨_, rfl, ?_⟩
        have S2 := q_sp P1 T2
        obtain ⟨a0, a1, a2, a3⟩ := c6 S2.u
        refine ⟨_, a0, _, a1, _, a2, _, _, _, a3, _, (c9 S2.u).2.2.1, there h2 0 _ _ _ _ _ _ S2 fun h3 S3 => ?_⟩
        rw [t]
        refine ⟨fun _ => ?_, fun e => by cases e⟩
        obtain ⟨a0, a1, a2, a3⟩ := c6 S3.u
        obtain ⟨d0, d1, d2, d3⟩ := c9 S3.u
        refine ⟨_, a0, _, a1, _, a2, _, _, _, a3, _, d2, _, d3, ref_setw_ok hv t S3.p.2.1.2.1 fun h4 T4 => ⟨rfl, ?_⟩⟩
        exact fin _ _ (σ.st.wr W.c p v) h4 rfl (fun _ => rfl) (S3.trans (q_ref S3.p T4))
    -- New
    refine ⟨fun e6 => ?_, fun e6 => ?_⟩
    · have hop : op = 6 := by simpa using e6
      refine ⟨_, d2, _, rfl, links_New_ok (s := W.s) hp fun h2 N2 => ⟨_, rfl, hk0, hk3, ?_⟩⟩
      have S2 := q_new P1 hk N2
      generalize h1.size = nb at S2 ⊢
      obtain ⟨w2, T3⟩ := q_setm S2.p hk nb
      have S3 := S2.trans T3
      obtain ⟨w3, T4⟩ := q_seth S3.p hk p
      have S4 := S3.trans T4
      refine ⟨(ea W.bm).symm ▸ w2, ?_⟩
      simp only [ea]
      refine ⟨_, (c9 S3.u).2.2.1, _, rfl, hk0, hk3, (ea W.bh).symm ▸ w3, ?_⟩
      simp only [ea]
      refine ⟨_, rfl, hk0, hk3, _, by rw [ea]; exact q_mine S4.p hk, ?_⟩
      refine fin _ _ _ _ rfl (fun e => ?_) S4
      rcases e with e | e
      · exact absurd hop e
      · exact setf_ne _ _ (Ne.symm e)
    -- Look
    refine ⟨fun e7 => ?_, fun e7 => ?_⟩
    · have hop : op ≠ 6 := by simp at e7; omega
      refine ⟨_, d2, ?_⟩
      have there : ∀ (h2 : Heap) (K2 : Bool → Heap → Prop), Stp h1 h2 (psR W σ) (psR W σ) → (∀ h3, Stp h1 h3 (psR W σ) (psR W σ) → K2 (σ.st.th W.c p 8) h3) →
          CallV Try.prog w₀ F.croftref2_There [rsv W.c σ.st.n W.mp W.mc, .int .u64 p, .int .u64 8] h2 fun v178 h178 => ∃ r178 : Bool, v178 = .bool r178 ∧ K2 r178 h178 := by
        intro h2 K2 S2 hK2
        refine ref2_There_ok hp (by omega) S2.p.2.1.2.1 fun h3 u3 => ⟨_, rfl, ?_⟩
        have e : decide (There W.c σ.st.n p 8) = σ.st.th W.c p 8 := by rw [Bool.eq_iff_iff, decide_eq_true_eq, th_iff]
        rw [e]
        exact hK2 h3 (S2.trans (Stp.quiet S2.p u3))
      refine mem_Word_ok hp P1.1.2.1 (fun t h2 u2 => ⟨_, _, rfl, ?_⟩) (fun t h2 u2 => ⟨_, _, rfl, ?_⟩)
      · have S2 := (Stp.refl P1).trans (Stp.quiet P1 u2)
        obtain ⟨a0, a1, a2, a3⟩ := c6 S2.u
        refine ⟨_, a0, _, a1, _, a2, _, _, _, a3, _, (c9 S2.u).2.2.1, there h2 _ S2 fun h3 S3 => ?_⟩
        have t := th_iff.2 t
        rw [t]
        refine ⟨fun _ J37 hJ37 => qT rfl ?_, fun e => by cases e⟩
        obtain ⟨a0, a1, a2, a3⟩ := c6 S3.u
        refine ⟨_, a0, _, a1, _, a2, _, _, _, a3, _, (c9 S3.u).2.2.1, ref_word_ok t S3.p.2.1.2.1 fun h4 u4 => ⟨_, rfl, hJ37 _ _ ?_⟩⟩
        have e : (wrd (fun i => σ.st.M ((p - W.c.base).toNat + i)) 8 == σ.st.rd W.c p) = true := beq_self_eq_true _
        rw [e]
        exact fin _ _ _ h4 rfl (fun _ => rfl) (S3.trans (Stp.quiet S3.p u4))
      · have S2 := (Stp.refl P1).trans (Stp.quiet P1 u2)
        obtain ⟨a0, a1, a2, a3⟩ := c6 S2.u
        refine ⟨_, a0, _, a1, _, a2, _, _, _, a3, _, (c9 S2.u).2.2.1, there h2 _ S2 fun h3 S3 => ?_⟩
        have t := th_false.2 t
        rw [t]
        exact ⟨fun e => (by cases e), fun _ J39 hJ39 => qT rfl (hJ39 _ _ (fin _ _ _ h3 rfl (fun _ => rfl) S3))⟩
    · have hop : op ≠ 6 := by simpa using e6
      exact fin _ _ _ h1 rfl (fun _ => rfl) (Stp.refl P1)
  refine jor.2 ?_
  by_cases hl : li < 0 ∨ li > 2
  · have e : (decide (li < 0) || decide (li > 2)) = true := by
      rcases hl with e | e
      · rw [decide_eq_true e]; rfl
      · rw [decide_eq_true e, Bool.or_true]
    rw [e]
    have ek : kU li = 0 := by unfold kU; rw [if_pos hl]
    rw [ek] at core
    exact ⟨fun _ => core, fun e => by cases e⟩
  · have e : (decide (li < 0) || decide (li > 2)) = false := by
      rw [decide_eq_false (by omega), decide_eq_false (by omega)]; rfl
    rw [e]
    have ek : ((kU li : Nat) : Int) = li := by unfold kU; rw [if_neg hl]; omega
    rw [ek] at core
    exact ⟨fun e => (by cases e), fun _ => core⟩
end
end Go.Proofs.Ytfijahblggnbbaa
