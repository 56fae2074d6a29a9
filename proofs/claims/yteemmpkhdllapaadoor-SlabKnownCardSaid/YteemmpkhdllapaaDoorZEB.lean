/- croftlaw7: a world's calls, by what its state stands for. No condition. -/
import Derived.Test.YteemmpkhdllapaaDoorZEA
set_option linter.unusedSimpArgs false
set_option linter.unusedVariables false
namespace Go.Proofs.YteemmpkhdllapaaDoor
open Go.V Classical

theorem si0 {c : Cfg} (g : c.Good) (cl : Nat → Nat) (fr : Nat → List Nat) : SI c (BU0 c) (fun _ => -1) noS (fun _ => []) [] cl fr (fun _ => []) :=
  ⟨⟨rep0 g, by show 0 = 0 * _; omega, g⟩, fun _ h => h.elim, fun _ h => h.elim, fun _ _ => ⟨.nil, fun _ => ⟨fun h => (by cases h), fun h => h.1.elim⟩⟩, fun _ _ => rfl, fun _ h => h.elim, fun _ _ => trivial, fun _ h => h.elim, fun _ h => h.elim⟩

section
variable {w₀ : World} {h h' : Heap} {c : Cfg} {wb : Nat} {d : List Value} {Q Q' : SL} {x x' : BU} {hp hp' : Nat → Int} {S : Nat → Prop} {fl : Nat → List Nat} {L L' : List PBk} {cl : Nat → Nat} {fr pl : Nat → List Nat} {p k q j : Nat} {K : Value → Heap → Prop}

theorem w_s (H : (w7R c wb d Q x hp).P h) : (sR c Q x hp).P h := H.2.1
theorem w_c3 (H : (w7R c wb d Q x hp).P h) : cellAt h ((⟨wb, 0, none⟩ : Addr).add 3) = some (gptr Q.pl.pb) := cell_l (l := w7L c Q d) H.1 3
theorem w_c4 (H : (w7R c wb d Q x hp).P h) : cellAt h ((⟨wb, 0, none⟩ : Addr).add 4) = some (gptr Q.sb) := cell_l (l := w7L c Q d) H.1 4
theorem w_T (T : TabH h (w7R c wb d Q x hp)) : TabH h (sR c Q x hp) := ⟨T.t, fun e => T.z (.inr e)⟩
theorem w_lim (H : (w7R c wb d Q x hp).P h) : (x.st.n : Int) ≤ c.limit := (s_sp (w_s H)).nl

theorem w_lift (H : (w7R c wb d Q x hp).P h) (hS : SL.Same Q Q') (s : Stp h h' (sR c Q x hp) (sR c Q' x' hp')) : Stp h h' (w7R c wb d Q x hp) (w7R c wb d Q' x' hp') := by
  have T := s.right H
  unfold w7R w7L
  rw [hS.sb, hS.pb]
  exact T

theorem WS.page (W : WS S c x fl ((q, 0) :: L)) {b : PBk} (hb : b ∈ L) {o : Nat} (h1 : 4096 * b.1 ≤ o) (h2 : o < 4096 * (b.1 + 2 ^ b.2)) : ¬ (4096 * q ≤ o ∧ o < 4096 * (q + 1)) := fun ho => by
  have nd := List.nodup_cons.1 W.nd
  have hc : Cov b q := ⟨by omega, by generalize b.1 + 2 ^ b.2 = z at h2 ⊢; omega⟩
  have := W.rep.uniq0 (List.mem_cons_self ..) (List.mem_cons_of_mem _ hb) hc
  exact nd.1 (this ▸ hb)

theorem WS.fresh (W : WS S c x fl ((q, 0) :: L)) (h : ∀ p, S p → (p, 0) ∈ L) : ¬ S q := fun hq => (List.nodup_cons.1 W.nd).1 (h q hq)

theorem takeX {deny : Bool} (I : SI c x hp S fl L cl fr pl) (T : TabH h (w7R c wb d Q x hp)) (H : (w7R c wb d Q x hp).P h) (hk : k < 8)
    (h1 : ∀ q l' j f, pl k = q :: l' → fr q = j :: f → ∀ x' hp' h' Q', SL.Same Q Q' → SI c x' hp' S fl L cl (fset fr q f) (fset pl k (if f = [] then l' else q :: l')) → x'.st = x.st → x'.m.n = x.m.n → x'.m.o = x.m.o →
      Stp h h' (w7R c wb d Q x hp) (w7R c wb d Q' x' hp') → K (.tuple #[.int .u64 (adr c q + ((j * wdt k : Nat) : Int)), .bool false, .int .i64 0]) h')
    (h2 : pl k = [] → (∀ j, j ≤ x.m.o → fl j = []) → (deny = true ∨ (x.st.n : Int) = c.limit) → ∀ h' Q', SL.Same Q Q' → Stp h h' (w7R c wb d Q x hp) (w7R c wb d Q' x hp) → K (.tuple #[.int .u64 0, .bool false, .int .i64 2]) h')
    (h3 : pl k = [] → ∀ q b fl' x' hp' h' Q', SL.Same Q Q' →
      ((b = false ∧ ∃ j l, j ≤ x.m.o ∧ fl j = q :: l ∧ (∀ i, i < j → fl i = []) ∧ fl' = aCut q 0 (fset fl j l) (j - 0) ∧ x'.m.n = x.m.n ∧ x'.st.n = x.st.n) ∨
       (b = true ∧ (∀ j, j ≤ x.m.o → fl j = []) ∧ deny = false ∧ (x.st.n : Int) < c.limit ∧ q = x.m.n ∧ fl' = aCut x.m.n 0 (fset fl x.m.o []) (x.m.o - 0) ∧ x'.m.n = x.m.n + 2 ^ x.m.o ∧ x'.st.n = x.st.n + 1)) →
      SI c x' hp' (fun p => S p ∨ p = q) fl' ((q, 0) :: L) (fset cl q k) (fset fr q (List.range' 1 (cnt k - 1))) (fset pl k [q]) → x'.m.o = x.m.o → Keep L x.st x'.st →
      Stp h h' (w7R c wb d Q x hp) (w7R c wb d Q' x' hp') → K (.tuple #[.int .u64 (adr c q), .bool b, .int .i64 0]) h') :
    CallV Tryd.prog w₀ F.slab_Slab_Take [gptr Q.sb, .int .i64 (k : Int), .bool deny] h K := by
  refine take_ok hk I.ki (w_T T) (w_s H) fun h4 Q4 hS4 W4 S4 => ?_
  have T4 := w_lift H hS4 S4
  have hhd := I.hd k hk
  cases hpl : pl k with
  | cons q l' =>
    have hm := (I.plS hk (p := q) (by rw [hpl]; exact List.mem_cons_self ..))
    cases hfr : fr q with
    | nil => exact absurd hfr hm.2.2.2.2
    | cons j f =>
      have hq : hp k = (q : Int) := by rw [hhd, hpl]; rfl
      obtain ⟨t1, t2, t3, t4, t5⟩ := sim_takeC I hk hpl hfr
      have e : takeSU c x hp k deny = ((takeC c x hp q k).1, (takeC c x hp q k).2.1, (takeC c x hp q k).2.2, false, 0) := by
        unfold takeSU; rw [if_pos (by omega), hq]
      rw [e] at T4 ⊢
      simp only [t1]
      exact h1 q l' j f hpl hfr _ _ h4 Q4 hS4 t2 t3 t4 t5 T4
  | nil =>
    have hneg : ¬ 0 ≤ hp k := by rw [hhd, hpl]; decide
    rcases sim_need I.w (w_lim H) 0 deny with ⟨ho, _⟩ | ⟨on, eo, ho, hcase⟩
    · exact absurd ho (by omega)
    have eo : on = 0 := by omega
    subst eo
    have fin : ∀ (q : Nat) (b : Bool) (fl' : Nat → List Nat), (needU c x 0 deny).2 = (adr c q, b, 0) → WS S c (needU c x 0 deny).1 fl' ((q, 0) :: L) → (needU c x 0 deny).1.m.o = x.m.o → Keep L x.st (needU c x 0 deny).1.st → PK L x.m (needU c x 0 deny).1.m →
        (∀ x' : BU, x'.m.n = (needU c x 0 deny).1.m.n → x'.st.n = (needU c x 0 deny).1.st.n →
        ((b = false ∧ ∃ j l, j ≤ x.m.o ∧ fl j = q :: l ∧ (∀ i, i < j → fl i = []) ∧ fl' = aCut q 0 (fset fl j l) (j - 0) ∧ x'.m.n = x.m.n ∧ x'.st.n = x.st.n) ∨
       (b = true ∧ (∀ j, j ≤ x.m.o → fl j = []) ∧ deny = false ∧ (x.st.n : Int) < c.limit ∧ q = x.m.n ∧ fl' = aCut x.m.n 0 (fset fl x.m.o []) (x.m.o - 0) ∧ x'.m.n = x.m.n + 2 ^ x.m.o ∧ x'.st.n = x.st.n + 1))) →
        K (.tuple #[.int .u64 (takeSU c x hp k deny).2.2.1, .bool (takeSU c x hp k deny).2.2.2.1, .int .i64 (takeSU c x hp k deny).2.2.2.2]) h4 := by
      intro q b fl' e2 W' o' K' P' hcase
      have hqS := W'.fresh fun p hp => (I.w.rep.ps p hp).1
      have I1 := I.pool' W' K' P'
      obtain ⟨t1, t2, t3, t4, t5, t6⟩ := sim_bornC I1 hk (List.mem_cons_self ..) hqS hpl
      have eq : (((needU c x 0 deny).2.1 - c.base) / 4096).toNat = q := by rw [e2]; unfold adr; omega
      have e : takeSU c x hp k deny = ((takeC c (bornU c (needU c x 0 deny).1 hp q k).1 (bornU c (needU c x 0 deny).1 hp q k).2 q k).1, (takeC c (bornU c (needU c x 0 deny).1 hp q k).1 (bornU c (needU c x 0 deny).1 hp q k).2 q k).2.1,
          (takeC c (bornU c (needU c x 0 deny).1 hp q k).1 (bornU c (needU c x 0 deny).1 hp q k).2 q k).2.2, b, 0) := by
        unfold takeSU
        rw [if_neg hneg, if_neg (by rw [e2]; simp)]
        simp only [eq]
        rw [e2]
      rw [e] at T4 ⊢
      simp only [t1]
      refine h3 hpl q b fl' _ _ h4 Q4 hS4 (hcase _ t3 t5) t2 (t4.trans o') ?_ T4
      intro z hz o h1 h2
      rw [t6 o (W'.page hz h1 h2)]
      exact K' z hz o h1 h2
    rcases hcase with ⟨j, q, l, j1, j2, hF, hi, e2, W', M⟩ | ⟨hF, hd, e2⟩ | ⟨hF, hd, hl, e2, W', o', n', s', K', P'⟩
    · exact fin q false _ e2 W' M.o M.k.2 M.pk fun x' n1 s1 => .inl ⟨rfl, j, l, j2, hF, fun i h => hi i (by omega) h, rfl, n1.trans M.n, s1.trans M.k.1⟩
    · have e : takeSU c x hp k deny = (x, hp, 0, false, 2) := by unfold takeSU; rw [if_neg hneg, e2, if_pos (by simp)]
      rw [e] at T4 ⊢
      exact h2 hpl (fun j hj => hF j (by omega) hj) hd h4 Q4 hS4 T4
    · exact fin x.m.n true _ e2 W' o' K' P' fun x' n1 s1 => .inr ⟨rfl, fun j hj => hF j (by omega) hj, hd, hl, rfl, rfl, n1.trans n', s1.trans s'⟩

theorem SI.lens (I : SI c x hp S fl L cl fr pl) (h : S q) (hj : j < cnt (cl q)) (hn : j ∉ fr q) : (fr q).length + 1 ≤ cnt (cl q) := by
  obtain ⟨h1, h2⟩ := I.nd q h
  have := List.Nodup.length_le_of_subset (List.nodup_cons.2 ⟨hn, h1⟩) (l₂ := List.range (cnt (cl q))) fun i hi => by
    rcases List.mem_cons.1 hi with e | e
    · exact List.mem_range.2 (e ▸ hj)
    · exact List.mem_range.2 (h2 i e)
  simpa using this

theorem giveX {a : Int} (ha : U64 a) (I : SI c x hp S fl L cl fr pl) (T : TabH h (w7R c wb d Q x hp)) (H : (w7R c wb d Q x hp).P h)
    (hn : (∀ q j, S q → j < cnt (cl q) → j ∉ fr q → a ≠ adr c q + ((j * wdt (cl q) : Nat) : Int)) → ∀ h', Stp h h' (w7R c wb d Q x hp) (w7R c wb d Q x hp) → K (.int .i64 1) h')
    (hc : ∀ q j, S q → j < cnt (cl q) → j ∉ fr q → a = adr c q + ((j * wdt (cl q) : Nat) : Int) → (fr q).length + 1 < cnt (cl q) → ∀ x' hp' h', SI c x' hp' S fl L cl (fset fr q (j :: fr q)) (fset pl (cl q) (if fr q = [] then q :: pl (cl q) else pl (cl q))) →
      x'.m.n = x.m.n → x'.m.o = x.m.o → x'.st.n = x.st.n → (∀ o, ¬ (4096 * q + j * wdt (cl q) ≤ o ∧ o < 4096 * q + j * wdt (cl q) + 8) → x'.st.M o = x.st.M o) → Stp h h' (w7R c wb d Q x hp) (w7R c wb d Q x' hp') → K (.int .i64 0) h')
    (hl : ∀ q j L', S q → j < cnt (cl q) → j ∉ fr q → a = adr c q + ((j * wdt (cl q) : Nat) : Int) → (fr q).length + 1 = cnt (cl q) → L.Perm ((q, 0) :: L') → ∀ x' hp' h', SI c x' hp' (fun p => S p ∧ p ≠ q) (aUp fl q 0 x.m.o) L' cl (fset fr q []) (fset pl (cl q) ((pl (cl q)).filter (· ≠ q))) →
      x'.m.n = x.m.n → x'.m.o = x.m.o → Kept L' x.st x'.st → Stp h h' (w7R c wb d Q x hp) (w7R c wb d Q x' hp') → K (.int .i64 0) h') :
    CallV Tryd.prog w₀ F.slab_Slab_Give [gptr Q.sb, .int .u64 a] h K := by
  refine sgive_ok ha I.ki (w_T T) (w_s H) fun h1 W1 S1 => ?_
  have T1 := w_lift H (.refl Q) S1
  cases hf : findU c x.m a with
  | none =>
    have e : giveSU c x hp a = (x, hp, 1) := by unfold giveSU; rw [hf]
    rw [e] at T1 ⊢
    refine hn (fun q j hS hj hnj ea => ?_) h1 T1
    rw [ea, findU_cell I hS hj hnj] at hf
    cases hf
  | some r =>
    obtain ⟨q, j⟩ := r
    obtain ⟨hS, hj, hnj, ea⟩ := findU_some I hf
    have hle := I.lens hS hj hnj
    by_cases hlt : (fr q).length + 1 < cnt (cl q)
    · obtain ⟨g0, g1, g2, g3, g4, g5⟩ := sim_giveC I hS rfl hj hnj hlt ea
      rw [g0]
      exact hc q j hS hj hnj ea hlt _ _ h1 g1 g2 g3 g4 g5 T1
    · have hL : L.Perm ((q, 0) :: L.erase (q, 0)) := List.perm_cons_erase (I.w.rep.ps q hS).1
      obtain ⟨g0, g1, g2, g3, g4⟩ := sim_giveL I hS rfl hj hnj (by omega) ea hL
      rw [g0]
      exact hl q j _ hS hj hnj ea (by omega) hL _ _ h1 g1 g2 g3 g4 T1

theorem sizeX {a : Int} (ha : U64 a) (I : SI c x hp S fl L cl fr pl) (T : TabH h (w7R c wb d Q x hp)) (H : (w7R c wb d Q x hp).P h)
    (hn : (∀ q j, S q → j < cnt (cl q) → j ∉ fr q → a ≠ adr c q + ((j * wdt (cl q) : Nat) : Int)) → ∀ h', Upd NoB h h' → K (.int .u64 0) h')
    (hc : ∀ q j, S q → j < cnt (cl q) → j ∉ fr q → a = adr c q + ((j * wdt (cl q) : Nat) : Int) → ∀ h', Upd NoB h h' → K (.int .u64 (wdt (cl q) : Int)) h') :
    CallV Tryd.prog w₀ F.slab_Slab_Size [gptr Q.sb, .int .u64 a] h K := by
  refine size_ok ha I.ki (w_T T) (w_s H) fun h1 u1 => ?_
  unfold sizeU
  cases hf : findU c x.m a with
  | none =>
    refine hn (fun q j hS hj hnj ea => ?_) h1 u1
    rw [ea, findU_cell I hS hj hnj] at hf
    cases hf
  | some r =>
    obtain ⟨q, j⟩ := r
    obtain ⟨hS, hj, hnj, ea⟩ := findU_some I hf
    simp only []
    rw [(I.pg q hS).k2, Int.toNat_natCast]
    exact hc q j hS hj hnj ea h1 u1

end
end Go.Proofs.YteemmpkhdllapaaDoor
