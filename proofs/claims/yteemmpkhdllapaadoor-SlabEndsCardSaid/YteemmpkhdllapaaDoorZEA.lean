/- slab: the last cell of a page; the pool's Need; Take and Give whole, by what the state stands for. No condition. -/
import Derived.Test.YteemmpkhdllapaaDoorZE9
set_option linter.unusedSimpArgs false
set_option linter.unusedVariables false
namespace Go.Proofs.YteemmpkhdllapaaDoor
open Go.V Classical

section
variable {c : Cfg} {x : BU} {hp : Nat → Int} {S : Nat → Prop} {fl : Nat → List Nat} {L L' : List PBk} {cl : Nat → Nat} {fr pl : Nat → List Nat} {p k q j : Nat} {f l' : List Nat}

theorem sim_need (W : WS S c x fl L) (hlim : (x.st.n : Int) ≤ c.limit) (o : Int) (deny : Bool) :
    ((o < 0 ∨ o > x.m.o) ∧ needU c x o deny = (x, 0, false, 1)) ∨
    ∃ on : Nat, o = on ∧ on ≤ x.m.o ∧
      ((∃ j p l, on ≤ j ∧ j ≤ x.m.o ∧ fl j = p :: l ∧ (∀ i, on ≤ i → i < j → fl i = []) ∧ (needU c x o deny).2 = (adr c p, false, 0) ∧ WS S c (needU c x o deny).1 (aCut p on (fset fl j l) (j - on)) ((p, on) :: L) ∧ Mv x (needU c x o deny).1 L) ∨
      ((∀ j, on ≤ j → j ≤ x.m.o → fl j = []) ∧ (deny = true ∨ (x.st.n : Int) = c.limit) ∧ needU c x o deny = (x, 0, false, 2)) ∨
      ((∀ j, on ≤ j → j ≤ x.m.o → fl j = []) ∧ deny = false ∧ (x.st.n : Int) < c.limit ∧ (needU c x o deny).2 = (adr c x.m.n, true, 0) ∧ WS S c (needU c x o deny).1 (aCut x.m.n on (fset fl x.m.o []) (x.m.o - on)) ((x.m.n, on) :: L) ∧
        (needU c x o deny).1.m.o = x.m.o ∧ (needU c x o deny).1.m.n = x.m.n + 2 ^ x.m.o ∧ (needU c x o deny).1.st.n = x.st.n + 1 ∧ Keep L x.st (needU c x o deny).1.st ∧ PK L x.m (needU c x o deny).1.m)) := by
  by_cases ho : o < 0 ∨ o > x.m.o
  · refine .inl ⟨ho, ?_⟩
    have e : takeU c x o = (x, 0, 1) := by unfold takeU; rw [if_pos ho]
    unfold needU
    rw [e, if_pos (by simp)]
  obtain ⟨on, rfl⟩ : ∃ on : Nat, o = on := ⟨o.toNat, by omega⟩
  have ho : on ≤ x.m.o := by omega
  refine .inr ⟨on, rfl, ho, ?_⟩
  rcases sim_take W.g ho W.rep with ⟨e, hF⟩ | ⟨j, p, l, j1, j2, hF, hi, e, G⟩
  case inr =>
    obtain ⟨W', M⟩ := W.mv G
    have en : needU c x on deny = ((takeU c x on).1, (takeU c x on).2.1, false, (takeU c x on).2.2) := by
      unfold needU; rw [if_pos (by rw [e]; simp)]
    rw [en]
    refine .inl ⟨j, p, l, j1, j2, hF, hi, ?_, W', M⟩
    simp only [e]
  by_cases hd : deny = true ∨ (x.st.n : Int) = c.limit
  · refine .inr (.inl ⟨hF, hd, ?_⟩)
    unfold needU
    rw [e, if_neg (by simp), if_pos hd]
  have hd0 : deny = false := by cases deny; rfl; exact absurd (.inl rfl) hd
  have hl : (x.st.n : Int) < c.limit := by
    have : (x.st.n : Int) ≠ c.limit := fun e => hd (.inr e)
    omega
  refine .inr (.inr ⟨hF, hd0, hl, ?_⟩)
  have en : needU c x on deny = ((takeU c (feedU c ⟨growS c x.st, x.hd, mGrow x.m⟩).1 on).1, (takeU c (feedU c ⟨growS c x.st, x.hd, mGrow x.m⟩).1 on).2.1, decide ((takeU c (feedU c ⟨growS c x.st, x.hd, mGrow x.m⟩).1 on).2.2 = 0), (takeU c (feedU c ⟨growS c x.st, x.hd, mGrow x.m⟩).1 on).2.2) := by
    unfold needU
    rw [e, if_neg (by simp), if_neg hd]
  obtain ⟨W3, eo, en3, hM, pk3⟩ := comeS W hl
  have e9 : (mGrow x.m).n - 2 ^ (mGrow x.m).o = x.m.n := by rw [en3, eo, Nat.add_sub_cancel]
  obtain ⟨f0, G4⟩ := sim_feed (x := ⟨growS c x.st, x.hd, mGrow x.m⟩) W3.g W3.rep (Nat.succ_pos _) W3.e (L' := L) (by rw [e9, eo]) (by rw [e9]; exact fun hq => Nat.lt_irrefl _ (W.rep.sn hq))
  obtain ⟨W4, M4⟩ := W3.mv G4
  rw [e9, eo] at W4
  generalize hx4 : (feedU c ⟨growS c x.st, x.hd, mGrow x.m⟩).1 = x4 at en W4 M4
  have o4 : x4.m.o = x.m.o := by rw [M4.o]; exact eo
  have hO : fl x.m.o = [] := hF x.m.o ho (Nat.le_refl _)
  have f4 : ∀ j, aUp fl x.m.n x.m.o 0 j = if j = x.m.o then [x.m.n] else fl j := fun j => by
    show fset fl x.m.o (x.m.n :: fl x.m.o) j = _
    rw [hO]; rfl
  rcases sim_take W4.g (o := on) (by omega) W4.rep with ⟨e5, hF4⟩ | ⟨j, p, l, j1, j2, hF4, hi, e5, G5⟩
  · have := hF4 x.m.o ho (by omega)
    rw [f4, if_pos rfl] at this; cases this
  have hj : j = x.m.o := Classical.byContradiction fun hne => by
    rw [f4, if_neg hne, hF j j1 (by omega)] at hF4; cases hF4
  subst hj
  rw [f4, if_pos rfl] at hF4
  cases hF4
  obtain ⟨W5, M5⟩ := W4.mv G5
  have ef : fset (aUp fl x.m.n x.m.o 0) x.m.o [] = fset fl x.m.o [] := funext fun j => by
    unfold fset
    by_cases e : j = x.m.o
    · rw [if_pos e, if_pos e]
    · rw [if_neg e, if_neg e, f4, if_neg e]
  rw [ef] at W5
  rw [en]
  refine ⟨by simp only [e5]; simp, W5, by rw [M5.o, o4], by rw [M5.n, M4.n]; exact en3, by rw [M5.k.1, M4.k.1]; rfl, ?_, pk3.trans (M4.pk.trans M5.pk)⟩
  intro z hz y hy1 hy2
  rw [M5.k.2 z hz y hy1 hy2, M4.k.2 z hz y hy1 hy2]
  exact hM z hz y hy1 hy2

theorem SI.pool' (I : SI c x hp S fl L cl fr pl) {x' : BU} {fl' : Nat → List Nat} (W : WS S c x' fl' L') (hk : Keep L x.st x'.st) (hpk : PK L x.m x'.m) : SI c x' hp S fl' L' cl fr pl :=
  I.pool W (fun q hq => hpk _ (I.w.rep.ps q hq).1 q cov_self) fun q hq o h1 h2 => hk (q, 0) (I.w.rep.ps q hq).1 o h1 (by simpa using h2)

theorem range_tail (n : Nat) (hn : 2 ≤ n) : List.range n = 0 :: List.range' 1 (n - 1) ∧ List.range' 1 (n - 1) ≠ [] := by
  obtain ⟨m, rfl⟩ : ∃ m, n = m + 2 := ⟨n - 2, by omega⟩
  refine ⟨by rw [List.range_eq_range', List.range'_succ]; rfl, fun e => ?_⟩
  have := congrArg List.length e
  simp at this

theorem sim_bornC (I : SI c x hp S fl L cl fr pl) (hk : k < 8) (hqL : (q, 0) ∈ L) (hS : ¬ S q) (hpl : pl k = []) :
    let b := bornU c x hp q k
    let t := takeC c b.1 b.2 q k
    t.2.2 = adr c q ∧ SI c t.1 t.2.1 (fun p => S p ∨ p = q) fl L (fset cl q k) (fset fr q (List.range' 1 (cnt k - 1))) (fset pl k [q]) ∧ t.1.m.n = x.m.n ∧ t.1.m.o = x.m.o ∧ t.1.st.n = x.st.n ∧ ∀ o, ¬ (4096 * q ≤ o ∧ o < 4096 * (q + 1)) → t.1.st.M o = x.st.M o := by
  intro b t
  obtain ⟨I1, n1, o1, s1, m1⟩ := sim_born I hk hqL hS
  obtain ⟨r1, r2⟩ := range_tail (cnt k) (cnt_wdt hk).2.2.1
  rw [hpl] at I1
  obtain ⟨t1, t2, t3, t4, t5⟩ := sim_takeC (q := q) (l' := []) (j := 0) (f := List.range' 1 (cnt k - 1)) I1 hk (by rw [fset_same]) (by rw [fset_same, r1])
  have ff : ∀ {α : Type} (g : Nat → α) (a b : α), fset (fset g q a) q b = fset g q b := fun g a b => by funext i; unfold fset; split <;> rfl
  have ffk : ∀ {α : Type} (g : Nat → α) (a b : α), fset (fset g k a) k b = fset g k b := fun g a b => by funext i; unfold fset; split <;> rfl
  rw [ff, ffk, if_neg r2] at t2
  exact ⟨by rw [t1]; simp, t2, t4.trans n1, t5.trans o1, by rw [t3]; exact s1, fun o ho => by rw [t3]; exact m1 o ho⟩
end
end Go.Proofs.YteemmpkhdllapaaDoor
