/- links: a range over a list, whatever its rounds do. No condition. -/
import Derived.Test.YtfijahblggnbbaaK3
set_option linter.unusedSimpArgs false
set_option linter.unusedVariables false
namespace Go.Proofs.Ytfijahblggnbbaa
open Go.V Classical

section
variable {S : Type} {w₀ : World}

/-- A range's walk: so many may still be given, the address in hand, the one that was given last; from state to state. -/
def WalkR (c : Cfg) (V : S → LS) (nx : S → Int → S → Prop) (go : S → Int → Bool) : Nat → Int → Int → S → S → Prop
  | 0, _, _, σ, τ => τ = σ
  | k + 1, p, b, σ, τ =>
    bif (p == 0 || !(V σ).st.th c p 16) || (lk2 (V σ).st c p != b) then τ = σ
    else ∃ σ', nx σ p σ' ∧ bif go σ p then WalkR c V nx go k (lk1 (V σ).st c p) p σ' τ else τ = σ'

/-- The address in hand is given. -/
def gdU (c : Cfg) (V : S → LS) (σ : S) (p b : Int) : Prop := ((p == 0 || !(V σ).st.th c p 16) || (lk2 (V σ).st c p != b)) = false
def fwU (c : Cfg) (V : S → LS) (σ : S) (p : Int) : Int := lk1 (V σ).st c p

/-- How a walk ends. -/
theorem WalkR_end {c : Cfg} {V : S → LS} {nx : S → Int → S → Prop} {go : S → Int → Bool} {ok : Nat → Int → Int → S → Prop} {U : Int → Prop} (hU : ∀ k p b σ, ok (k + 1) p b σ → U p)
    (stay : ∀ (k : Nat) (p b : Int) (σ σ' : S), ok (k + 1) p b σ → gdU c V σ p b → U p → go σ p = true → nx σ p σ' → ok k (fwU c V σ p) p σ') : ∀ (k : Nat) (p b : Int) (σ τ : S), ok k p b σ → WalkR c V nx go k p b σ τ →
    (∃ k' p' b', ok k' p' b' τ ∧ (k' = 0 ∨ ¬ gdU c V τ p' b')) ∨ (∃ k' p' b' σ', ok (k' + 1) p' b' σ' ∧ gdU c V σ' p' b' ∧ nx σ' p' τ ∧ go σ' p' = false)
  | 0, p, b, σ, τ, ho, h => by
    have h : τ = σ := h
    subst h
    exact .inl ⟨0, p, b, ho, .inl rfl⟩
  | k + 1, p, b, σ, τ, ho, h => by
    simp only [WalkR] at h
    cases hc : ((p == 0 || !(V σ).st.th c p 16) || (lk2 (V σ).st c p != b)) <;> rw [hc] at h
    · simp only [cond_false] at h
      obtain ⟨σ', h1, h2⟩ := h
      cases hg : go σ p <;> rw [hg] at h2
      · simp only [cond_false] at h2
        subst h2
        exact .inr ⟨k, p, b, σ, ho, hc, h1, hg⟩
      · simp only [cond_true] at h2
        exact WalkR_end hU stay k _ _ _ _ (stay k p b σ σ' ho hc (hU _ _ _ _ ho) hg h1) h2
    · simp only [cond_true] at h
      subst h
      refine .inl ⟨k + 1, p, b, ho, .inr fun e => ?_⟩
      unfold gdU at e
      rw [hc] at e
      cases e

theorem lk1_U64 {s : Nat} {c : Cfg} {Z : Nat → Prop} {st : Sto} {h : Heap} (H : (spR s c Z st).P h) (p : Int) : U64 (lk1 st c p) := by
  unfold lk1
  cases t : st.th c p 8
  · simp [U64]
  · simpa using rd_U64 H t

theorem links_walk_1_ok {s l a1 : Nat} {c : Cfg} {y : Value} {M : S → Res} {Ex : Res} {ok : Nat → Int → Int → S → Prop} {nx : S → Int → S → Prop} {go : S → Int → Bool} {V : S → LS} (Y : Yd Try.prog w₀ y M Ex ok (gdU c V) (fwU c V) nx go)
    (hV : ∀ σ h, (M σ).P h → (lsR s l (V σ).hd).P h ∧ ∃ Z, (spR s c Z (V σ).st).P h) {σ : S} {h : Heap} {K : Value → Heap → Prop} (hok : ok (roomU c (V σ).st) (V σ).hd 0 σ) {f1 : Nat → Value} (hf1 : f1 0 = .pointer (some ⟨l, 0, none⟩))
    (H : (andR (andR (blkR a1 1 f1) (M σ)) Ex).P h)
    (hK : ∀ τ h', WalkR c V nx go (roomU c (V σ).st) (V σ).hd 0 σ τ → Stp h h' (M σ) (M τ) → K (.tuple #[]) h') : CallV Try.prog w₀ F.links_List_walk_1 [y, .pointer (some ⟨a1, 0, none⟩)] h K := by
  refine links_List_walk_1.call ?_
  unfold links_List_walk_1.vc
  obtain ⟨L0, Z0, H0⟩ := hV σ h H.1.2.1
  have c1 : ∀ {h2 : Heap} {τ : S}, (andR (blkR a1 1 f1) (M τ)).P h2 → cellAt h2 ⟨a1, 0, none⟩ = some (.pointer (some ⟨l, 0, none⟩)) := fun P => by rw [← hf1]; exact P.1.cell (by omega)
  refine ⟨_, c1 H.1, _, rfl, _, ls_h1 L0, fun L1 hL1 => hL1 _ _ _ _ _ ⟨_, c1 H.1, links_room_ok L0 H0 fun h1 u1 => ⟨_, rfl, fun L3 hL3 => ?_⟩⟩⟩
  have hroom : roomU c (V σ).st ≤ 4194304 := by
    have := (H0.good.len H0.nl).1
    unfold roomU
    exact Nat.le_trans (Nat.div_le_self _ _) this
  generalize roomU c (V σ).st = room at hK hroom hok
  have u0 := L0.1
  generalize (V σ).hd = hd0 at hK u0 hok
  have loop : ∀ (k i : Nat) (p b : Int) (τ : S) (h2 : Heap), i + k = room → ok k p b τ → U64 p → Stp h h2 (M σ) (M τ) → (andR (andR (blkR a1 1 f1) (M τ)) Ex).P h2 →
      (∀ τ' h', WalkR c V nx go k p b τ τ' → Stp h h' (M σ) (M τ') → K (.tuple #[]) h') → L3 [y, .pointer (some ⟨a1, 0, none⟩), .int .u64 p, .int .u64 b, .int .i64 (room : Nat), .int .i64 ((i : Nat) : Int)] h2 := by
    intro k
    induction k with
    | zero =>
      intro i p b τ h2 hi ho hp S2 P2 hK2
      exact hL3 _ _ _ _ _ _ _ (iF (decide_eq_false (by omega)) (hK2 τ h2 rfl S2))
    | succ k ih =>
      intro i p b τ h2 hi ho hp S2 P2 hK2
      obtain ⟨L2, Z2, H2⟩ := hV τ h2 P2.1.2.1
      refine hL3 _ _ _ _ _ _ _ (iT (decide_eq_true (by omega)) ⟨_, c1 P2.1, links_links_ok hp L2 H2 fun h3 u3 => ⟨_, _, _, rfl, ?_⟩⟩)
      have S3 : Stp h h3 (M σ) (M τ) := S2.trans (Stp.quiet P2.1.2.1 u3)
      have P3 : (andR (andR (blkR a1 1 f1) (M τ)) Ex).P h3 := (andR (andR (blkR a1 1 f1) (M τ)) Ex).st P2 u3 fun _ _ => id
      refine jor.2 (jor.2 ?_)
      simp only [WalkR] at hK2
      cases hc : ((p == 0 || !(V τ).st.th c p 16) || (lk2 (V τ).st c p != b)) <;> rw [hc] at hK2
      · refine ⟨fun e => (by cases e), fun _ => CallF.mono (Y.call k p b τ h3 ho hc hp ⟨P3.1.2.1, P3.2.1, fun b e e' => P3.2.2 b (.inr e) e'⟩) ?_⟩
        simp only [cond_false] at hK2
        intro e h4 q
        cases e with
        | returned v =>
          obtain ⟨rfl, σ', hx, S4⟩ := q
          refine ⟨_, rfl, ?_⟩
          have P4 := ((S4.right P3.1).left P3).p
          cases hg : go τ p <;> rw [hg] at hK2
          · exact iT rfl (hK2 σ' h4 ⟨σ', hx, rfl⟩ (S3.trans S4))
          · simp only [cond_true] at hK2
            refine iF rfl ?_
            have e1 : IntKind.wrap .i64 (((i : Nat) : Int) + 1) = (((i + 1 : Nat)) : Int) := by rw [IntWalk.i64_in _ (by omega)]; omega
            rw [e1]
            exact ih (i + 1) _ _ _ h4 (by omega) (Y.stay k p b τ σ' ho hc hp hg hx) (lk1_U64 H2 p) (S3.trans S4) P4 fun τ' h' hw => hK2 τ' h' ⟨σ', hx, hw⟩
        | panicked ch => exact q.elim
        | outgrown => exact q.elim
      · exact ⟨fun _ => hK2 τ h3 rfl S3, fun e => (by cases e)⟩
  exact loop room 0 hd0 0 σ h1 (by omega) hok u0 (Stp.quiet H.1.2.1 u1) ((andR (andR (blkR a1 1 f1) (M σ)) Ex).st H u1 fun _ _ => id) hK

/-- The inner range's walk is the outer one's. -/
theorem WalkR_fst {c : Cfg} {V : S → LS} {nx : S → Int → S → Prop} {go : S → Int → Bool} : ∀ (k : Nat) (p b : Int) (σ : S) (e : Bool) (z : S × Bool),
    WalkR c (fun x : S × Bool => V x.1) (fun x q y => nx x.1 q y.1 ∧ y.2 = !go x.1 q) (fun x q => go x.1 q) k p b (σ, e) z → WalkR c V nx go k p b σ z.1
  | 0, _, _, _, _, _, h => by
    have h : _ = _ := h
    rw [h]; rfl
  | k + 1, p, b, σ, e, z, h => by
    simp only [WalkR] at h ⊢
    cases hc : ((p == 0 || !(V σ).st.th c p 16) || (lk2 (V σ).st c p != b)) <;> rw [hc] at h
    · simp only [cond_false] at h ⊢
      obtain ⟨⟨σ', e'⟩, ⟨h1, h2⟩, h3⟩ := h
      refine ⟨σ', h1, ?_⟩
      cases hg : go σ p <;> rw [hg] at h3
      · simp only [cond_false] at h3 ⊢
        rw [h3]
      · simp only [cond_true] at h3 ⊢
        exact WalkR_fst k _ _ _ _ _ h3
    · simp only [cond_true] at h ⊢
      rw [h]

theorem links_All_1_ok {s l a1 : Nat} {c : Cfg} {y : Value} {M : S → Res} {Ex : Res} {ok : Nat → Int → Int → S → Prop} {nx : S → Int → S → Prop} {go : S → Int → Bool} {V : S → LS} (Y : Yd Try.prog w₀ y M Ex ok (gdU c V) (fwU c V) nx go)
    (hV : ∀ σ h, (M σ).P h → (lsR s l (V σ).hd).P h ∧ ∃ Z, (spR s c Z (V σ).st).P h) {σ : S} {h : Heap} {K : Value → Heap → Prop} (hok : ok (roomU c (V σ).st) (V σ).hd 0 σ) {f1 : Nat → Value} (hf1 : f1 0 = .pointer (some ⟨l, 0, none⟩))
    (H : (andR (andR (blkR a1 1 f1) (M σ)) Ex).P h)
    (hK : ∀ τ h', WalkR c V nx go (roomU c (V σ).st) (V σ).hd 0 σ τ → Stp h h' (M σ) (M τ) → K (.tuple #[]) h') : CallV Try.prog w₀ F.links_List_All_1 [y, .pointer (some ⟨a1, 0, none⟩)] h K := by
  refine links_List_All_1.call ?_
  unfold links_List_All_1.vc
  rw [Y.cells]
  have N1 := New.box h #[y] T.T2a204121
  generalize hh1 : Array.push h (.cells #[y] T.T2a204121) = h1 at N1 ⊢
  have hs1 : h1.size = h.size + 1 := by rw [← hh1]; simp
  have B1 : (andR (andR (blkR a1 1 f1) (M σ)) Ex).P h1 := (andR (andR (blkR a1 1 f1) (M σ)) Ex).st H N1.u fun _ _ => id
  refine ⟨_, by rw [← hf1]; exact B1.1.1.cell (by omega), ?_⟩
  refine links_List_walk.call ?_
  unfold links_List_walk.vc
  have N2 := New.box h1 #[.pointer (some ⟨l, 0, none⟩)] T.T_p_links_List
  generalize hh2 : Array.push h1 (.cells #[.pointer (some ⟨l, 0, none⟩)] T.T_p_links_List) = h2 at N2 ⊢
  refine ⟨_, rfl, fun rec hrec hround => CallG_func (by kernel_rfl) ?_⟩
  -- what the rounds may touch
  let Mi : S → Res := fun τ => andR (M τ) (blkR h.size 1 fun _ => y)
  have cg : (blkR h.size (#[y] : Array Value).size fun j => (#[y] : Array Value).getD j undef).P h1 → (blkR h.size 1 fun _ => y).P h1 := fun P => Blk.congr P fun i hi => by
    have : i = 0 := by omega
    subst this; rfl
  have S1 : Stp h h1 (M σ) (Mi σ) := Stp.new H.1.2.1 (N1.conv cg fun _ e => e)
  have S2 : Stp h h2 (M σ) (Mi σ) := S1.trans (Stp.quiet S1.p N2.u)
  let st : Bool → Obj := fun e => if e then rec .done (some .ret) else rec .ready none
  have hst : ∀ e, noC (st e) := fun e => by cases e <;> exact rec_noC hrec _ _
  have Yi : Yd Try.prog w₀ (.func (.yield (h2.size + 1)) #[] #[]) (fun x : S × Bool => andR (objR (h2.size + 1) (st x.2)) (Mi x.1)) Ex (fun k p b x => ok k p b x.1 ∧ x.2 = false) (gdU c fun x : S × Bool => V x.1) (fwU c fun x : S × Bool => V x.1) (fun x q y => nx x.1 q y.1 ∧ y.2 = !go x.1 q) (fun x q => go x.1 q) := by
    refine ⟨?_, rfl, fun k q b x y ⟨h1, h2⟩ hgd hq hg hy => ⟨Y.stay k q b x.1 y.1 h1 hgd hq hg hy.1, by rw [hy.2, hg]; rfl⟩⟩
    rintro k q b ⟨τ, e⟩ hB ⟨ho, rfl⟩ hgd hq HB
    obtain ⟨r1, r2, r3⟩ := round_out HB.1 (rec_noC hrec .ready none) (rec_noC hrec .busy none)
    have rE : Ex.P (setO hB (h2.size + 1) (rec .busy none)) := Ex.st HB.2.1 (setO_upd r1 (rec_noC hrec .ready none) (rec_noC hrec .busy none)) fun b e e' => HB.2.2 b (.inl e') e
    refine hround q hB _ rfl r1 ⟨r1, _, r2.2.1.cell (i := 0) (by omega), CallF.mono (Y.call k q b τ _ ho hgd hq ⟨r2.1, rE, fun b e e' => HB.2.2 b (.inr (.inl e)) e'⟩) ?_⟩
    intro e h3 hq3
    cases e with
    | returned v =>
      obtain ⟨rfl, σ', hx, S3⟩ := hq3
      refine ⟨_, rfl, ?_⟩
      obtain ⟨r4, r5⟩ := r3 h3 (Mi σ') (S3.left r2)
      cases hg : go τ q
      · exact iT rfl ⟨r4, rfl, (σ', true), ⟨hx, by simp only [hg]; rfl⟩, r5 (st true) (hst true)⟩
      · exact iF rfl ⟨r4, rfl, (σ', false), ⟨hx, by simp only [hg]; rfl⟩, r5 (st false) (hst false)⟩
    | panicked ch => exact hq3.elim
    | outgrown => exact hq3.elim
  have Hin : (andR (objR (h2.size + 1) (st false)) (Mi σ)).P ((h2.push (.deferred (some []))).push (st false)) := range_in S2.p (hst false)
  have W2 : (blkR h1.size 1 fun j => (#[.pointer (some ⟨l, 0, none⟩)] : Array Value).getD j undef).P h2 := N2.p
  have Hw : (andR (andR (blkR h1.size 1 fun j => (#[.pointer (some ⟨l, 0, none⟩)] : Array Value).getD j undef) (andR (objR (h2.size + 1) (st false)) (Mi σ))) Ex).P ((h2.push (.deferred (some []))).push (st false)) := by
    have u : Upd (fun _ => False) h2 ((h2.push (.deferred (some []))).push (st false)) := (push_upd _ h2 _ (noC_fz (o := .deferred (some [])) trivial)).nx (push_upd _ _ _ (noC_fz (hst false))) fun _ e _ => e
    have E2 : Ex.P h2 := Ex.st B1.2.1 N2.u fun _ _ => id
    have hs2 : h2.size = h1.size + 1 := by rw [← hh2]; simp
    refine ⟨⟨(blkR h1.size 1 _).st W2 u fun _ _ => id, Hin, fun b e e' => ?_⟩, Ex.st E2 u fun _ _ => id, fun b e e' => ?_⟩
    rotate_left
    · have hb := Ex.lt H.2.1 b e'
      rcases e with e | e | e | e
      · have e : b = h1.size := e; omega
      · have e : b = h2.size + 1 := e; omega
      · exact H.2.2 b (.inr e) e'
      · have e : b = h.size := e; omega
    have e : b = h1.size := e
    rcases e' with e' | e'
    · have e' : b = h2.size + 1 := e'; omega
    · have := S1.p
      have := (Mi σ).lt this b e'
      omega
  refine CallV.toR (links_walk_1_ok (V := fun x : S × Bool => V x.1) Yi (fun x h' P => hV x.1 h' P.2.1.1) (σ := (σ, false)) ⟨hok, rfl⟩ (by rfl) Hw fun z h3 hw S3 => ?_)
  have hfst := WalkR_fst _ _ _ _ _ _ hw
  obtain ⟨τ, e⟩ := z
  obtain ⟨o1, o2⟩ := range_out S2.p (hst false) (hst e) S3
  have fin : ∀ pe, h3[h2.size]? = h3[h2.size]? → (let hA := setO h3 (h2.size + 1) (rec .exhausted pe); hA[h2.size]? = some (.deferred (some [])) ∧ K (.tuple #[]) (setO hA h2.size (.deferred none))) := by
    intro pe _
    obtain ⟨t1, t2⟩ := take_out (o2 (rec .exhausted pe) (rec_noC hrec _ _))
    exact ⟨t1, hK τ _ hfst ((S2.trans t2).conv (fun P => P.1) fun b e => .inl e)⟩
  cases e
  · exact ⟨.ready, none, o1, by simp, fin none rfl⟩
  · exact ⟨.done, some .ret, o1, by simp, fin (some .ret) rfl⟩
end
end Go.Proofs.Ytfijahblggnbbaa
