/- slab: the last cell of a page; the pool's Need; Take and Give whole, by what the state stands for. No condition. -/
import Derived.Test.YteemmpkhdllapaaDoorZE9
set_option linter.unusedSimpArgs false
set_option linter.unusedVariables false
namespace Go.Proofs.YteemmpkhdllapaaDoor
open Go.V Classical

section
variable {c : Cfg} {x : BU} {hp : Nat → Int} {S : Nat → Prop} {fl : Nat → List Nat} {L L' : List PBk} {cl : Nat → Nat} {fr pl : Nat → List Nat} {p k q j : Nat} {f l' : List Nat}

theorem sim_giveL (I : SI c x hp S fl L cl fr pl) {q j : Nat} (hS : S q) (hck : cl q = k) (hj : j < cnt k) (hn : j ∉ fr q) (hl : (fr q).length + 1 = cnt k) {a : Int} (ha : a = adr c q + ((j * wdt k : Nat) : Int)) (hL : L.Perm ((q, 0) :: L')) :
    (giveSU c x hp a).2.2 = 0 ∧ SI c (giveSU c x hp a).1 (giveSU c x hp a).2.1 (fun p => S p ∧ p ≠ q) (aUp fl q 0 x.m.o) L' cl (fset fr q []) (fset pl k ((pl k).filter (· ≠ q))) ∧
    (giveSU c x hp a).1.m.n = x.m.n ∧ (giveSU c x hp a).1.m.o = x.m.o ∧ Kept L' x.st (giveSU c x hp a).1.st := by
  subst hck
  have hk := I.k8 q hS
  have hf := findU_cell I hS hj hn
  rw [← ha] at hf
  have hqn := I.w.rep.sn hS
  have hqL := (I.w.rep.ps q hS).1
  have W := I.ki
  have T := W.ok.m.pg q hqn
  have PI := I.pg q hS
  have hc := cnt_wdt hk
  have hcl : fset cl q (cl q) = cl := fset_self rfl
  have hbit : pbit (x.m.pg q) j ≠ false := by rw [PI.bit j (by omega)]; simp [hj, hn]
  have em1 : (ownU x.m q j false).pg = putP x.m.pg q (pown (x.m.pg q) j false) := ownU_pg hqn PI.k0 PI.k2 hj hbit
  have W1 := ki_own (i := q) (p := j) (l := false) W
  have q0 : pown (x.m.pg q) j false 0 = 4 := by unfold pown; rw [if_neg (by omega), if_neg (by omega)]; exact PI.k0
  have q45 : pown (x.m.pg q) j false 4 = x.m.pg q 4 ∧ pown (x.m.pg q) j false 5 = x.m.pg q 5 := by unfold pown; constructor <;> rw [if_neg (by omega), if_neg (by omega)]
  have h3 : x.m.pg q 3 = 1 := by rw [PI.k3]; omega
  have k2 : (x.m.pg q 2).toNat = cl q := by rw [PI.k2]; rfl
  have hfr : fr q ≠ [] := fun e => by rw [e] at hl; simp at hl; omega
  have hqp : q ∈ pl (cl q) := ((I.pn _ hk).2 q).2 ⟨hS, rfl, hfr⟩
  obtain ⟨l1, l2, hpl⟩ := List.append_of_mem hqp
  have ndl := (I.pn _ hk).1
  have hfil : (pl (cl q)).filter (· ≠ q) = l1 ++ l2 := by rw [hpl]; exact filter_split (hpl ▸ ndl)
  rw [hpl] at ndl
  generalize hM1 : ownU x.m q j false = M1 at em1 W1
  have o1 : M1.o = x.m.o := by rw [← hM1]; simp
  have n1 : M1.n = x.m.n := by rw [← hM1]; simp
  have b1 : M1.bt = x.m.bt := by rw [← hM1]; simp
  have hch0 : CS M1.pg (l1 ++ q :: l2) (-1) (-1) := by
    rw [← hpl, em1]
    refine CS_congr (fun r hr => ?_) (I.ch _ hk)
    by_cases e : r = q
    · subst e; rw [putP_same]; exact q45
    · rw [putP_ne _ _ e]; exact ⟨rfl, rfl⟩
  obtain ⟨u1, u2, u3, u4, u5⟩ := unhang_sim (m := M1) (pt := hp) (p := q) (k := cl q) (l1 := l1) (l2 := l2) (fun r hr => by
    rw [← hpl] at hr
    have h := I.plS hk hr
    refine ⟨by rw [n1]; exact h.1, ?_⟩
    rw [em1]
    by_cases e : r = q
    · subst e; rw [putP_same]; exact q0
    · rw [putP_ne _ _ e]; exact h.2.1) ndl (by rw [I.hd _ hk, hpl]) hch0
  obtain ⟨ho, hn', hb⟩ := unhangM_o M1 q
  have W2 := ki_unhang (x := x.wm M1) (page := q) W1
  have em3 : (runI (unhangM M1 q) q).pg = runP (unhangM M1 q).pg q 0 2 := by
    unfold runI
    rw [if_pos (show runOk (unhangM M1 q) q 0 2 from ⟨.inr rfl, by omega, by omega, by omega, by simp [Nat.mod_one], by rw [hn', n1]; simp; omega⟩)]
    simp only [Int.toNat_natCast]
  have W3 : KI c (x.wm (runI (unhangM M1 q) q)) := ki_run (x := x.wm (unhangM M1 q)) (i := q) W2
  have out : ∀ r, r ≠ q → (runI (unhangM M1 q) q).pg r = (unhangM M1 q).pg r := fun r hr => by
    rw [em3]; exact runP_out fun hc => hr (by have := hc.1; have := hc.2; simp only [Nat.pow_zero] at *; omega)
  have inn : (runI (unhangM M1 q) q).pg q = plainP 2 0 := by
    rw [em3, runP_in cov_self, if_pos rfl]; rfl
  have eG : giveSU c x hp a = ((giveU c (x.wm (runI (unhangM M1 q) q)) (adr c q) 0).1, unhangP M1 hp q (cl q), (giveU c (x.wm (runI (unhangM M1 q) q)) (adr c q) 0).2) := by
    unfold giveSU
    rw [hf]
    simp only [k2, hM1]
    rw [if_pos h3]
  have I3 := I.step (S' := fun p => S p ∧ p ≠ q) (f' := []) (l' := l1 ++ l2) (hp' := unhangP M1 hp q (cl q)) hk hqL (.inl hS) (fun _ => rfl) (m' := runI (unhangM M1 q) q) (st' := x.st) W3 (by simp [ho, o1]) (by simp [hn', n1]) (by simp [hb, b1]) rfl
    (fun r hr => by simp [hr]) (fun r hr hr2 => by rw [out r hr, u4.o r (by rw [hpl] at hr2; exact hr2), em1, putP_ne _ _ hr])
    (fun r hr _ => by
      obtain ⟨a, b, e | e⟩ := u4.i r
      · exact ⟨a, b, .inl (by rw [out r hr, e, em1, putP_ne _ _ hr])⟩
      · exact ⟨a, b, .inr (by rw [out r hr, e, em1, putP_ne _ _ hr])⟩)
    (fun h => absurd rfl h.2) (fun _ => inn)
    ⟨by rw [← hfil]; exact (I.pn _ hk).1.filter _, fun r => by
      rw [← hfil, List.mem_filter]
      by_cases e : r = q
      · subst e; simp
      · simp [e]⟩ (CS_congr (pg := (unhangM M1 q).pg) (fun r hr => by
        have hrq : r ≠ q := fun e => by
          subst e
          have := hfil ▸ hr
          rw [List.mem_filter] at this
          simp at this
        rw [out r hrq]; exact ⟨rfl, rfl⟩) u1) u5 (fun _ _ => rfl)
  rw [hcl, ← hfil] at I3
  have hLn : ¬ (fun p => S p ∧ p ≠ q) q := fun h => h.2 rfl
  have om : (x.wm (runI (unhangM M1 q) q)).m.o = x.m.o := by simp [ho, o1]
  have nm : (x.wm (runI (unhangM M1 q) q)).m.n = x.m.n := by simp [hn', n1]
  obtain ⟨g0, G⟩ := sim_give I3.w.g I3.w.rep hL hLn
  obtain ⟨W4, M4⟩ := I3.w.mv G
  rw [eG]
  have hz : ((0 : Nat) : Int) = 0 := rfl
  rw [hz, om, Nat.sub_zero] at W4
  rw [hz] at M4 g0
  refine ⟨g0, ?_, M4.n.trans nm, M4.o.trans om, M4.k⟩
  refine I3.pool W4 (fun r hr => M4.pk _ (W4.rep.ps r hr).1 r cov_self) fun r hr o h1 h2 => ?_
  exact M4.k.2 (r, 0) (W4.rep.ps r hr).1 o h1 (by simpa using h2)

theorem sim_need (W : WS S c x fl L) (hlim : (x.st.n : Int) ≤ c.limit) (o : Int) (deny : Bool) :
    ((o < 0 ∨ o > x.m.o) ∧ needU c x o deny = (x, 0, false, 1)) ∨
    ∃ on : Nat, o = on ∧ on ≤ x.m.o ∧
      ((∃ j p l, on ≤ j ∧ j ≤ x.m.o ∧ fl j = p :: l ∧ (∀ i, on ≤ i → i < j → fl i = []) ∧ (needU c x o deny).2 = (adr c p, false, 0) ∧ WS S c (needU c x o deny).1 (aCut p on (fset fl j l) (j - on)) ((p, on) :: L) ∧ Mv x (needU c x o deny).1 L) ∨
      ((∀ j, on ≤ j → j ≤ x.m.o → fl j = []) ∧ (deny = true ∨ (x.st.n : Int) = c.limit) ∧ needU c x o deny = (x, 0, false, 2)) ∨
      ((∀ j, on ≤ j → j ≤ x.m.o → fl j = []) ∧ deny = false ∧ (x.st.n : Int) < c.limit ∧ (needU c x o deny).2 = (adr c x.m.n, true, 0) ∧ WS S c (needU c x o deny).1 (aCut x.m.n on (fset fl x.m.o []) (x.m.o - on)) ((x.m.n, on) :: L) ∧
        (needU c x o deny).1.m.o = x.m.o ∧ (needU c x o deny).1.m.n = x.m.n + 2 ^ x.m.o ∧ (needU c x o deny).1.st.n = x.st.n + 1 ∧ Keep L x.st (needU c x o deny).1.st ∧ PK L x.m (needU c x o deny).1.m)) := by
  by_cases ho : o < 0 ∨ o > x.m.o
  · refine .inl ⟨ho, ?_⟩
    have e : takeU c x o = (x, 0, 1) := by unfold takeU; rw [if_pos ho]
    unfold needU
    rw [e, if_pos (by simp)]
  obtain ⟨on, rfl⟩ : ∃ on : Nat, o = on := ⟨o.toNat, by omega⟩
  have ho : on ≤ x.m.o := by omega
  refine .inr ⟨on, rfl, ho, ?_⟩
  rcases sim_take W.g ho W.rep with ⟨e, hF⟩ | ⟨j, p, l, j1, j2, hF, hi, e, G⟩
  case inr =>
    obtain ⟨W', M⟩ := W.mv G
    have en : needU c x on deny = ((takeU c x on).1, (takeU c x on).2.1, false, (takeU c x on).2.2) := by
      unfold needU; rw [if_pos (by rw [e]; simp)]
    rw [en]
    refine .inl ⟨j, p, l, j1, j2, hF, hi, ?_, W', M⟩
    simp only [e]
  by_cases hd : deny = true ∨ (x.st.n : Int) = c.limit
  · refine .inr (.inl ⟨hF, hd, ?_⟩)
    unfold needU
    rw [e, if_neg (by simp), if_pos hd]
  have hd0 : deny = false := by cases deny; rfl; exact absurd (.inl rfl) hd
  have hl : (x.st.n : Int) < c.limit := by
    have : (x.st.n : Int) ≠ c.limit := fun e => hd (.inr e)
    omega
  refine .inr (.inr ⟨hF, hd0, hl, ?_⟩)
  have en : needU c x on deny = ((takeU c (feedU c ⟨growS c x.st, x.hd, mGrow x.m⟩).1 on).1, (takeU c (feedU c ⟨growS c x.st, x.hd, mGrow x.m⟩).1 on).2.1, decide ((takeU c (feedU c ⟨growS c x.st, x.hd, mGrow x.m⟩).1 on).2.2 = 0), (takeU c (feedU c ⟨growS c x.st, x.hd, mGrow x.m⟩).1 on).2.2) := by
    unfold needU
    rw [e, if_neg (by simp), if_neg hd]
  obtain ⟨W3, eo, en3, hM, pk3⟩ := comeS W hl
  have e9 : (mGrow x.m).n - 2 ^ (mGrow x.m).o = x.m.n := by rw [en3, eo, Nat.add_sub_cancel]
  obtain ⟨f0, G4⟩ := sim_feed (x := ⟨growS c x.st, x.hd, mGrow x.m⟩) W3.g W3.rep (Nat.succ_pos _) W3.e (L' := L) (by rw [e9, eo]) (by rw [e9]; exact fun hq => Nat.lt_irrefl _ (W.rep.sn hq))
  obtain ⟨W4, M4⟩ := W3.mv G4
  rw [e9, eo] at W4
  generalize hx4 : (feedU c ⟨growS c x.st, x.hd, mGrow x.m⟩).1 = x4 at en W4 M4
  have o4 : x4.m.o = x.m.o := by rw [M4.o]; exact eo
  have hO : fl x.m.o = [] := hF x.m.o ho (Nat.le_refl _)
  have f4 : ∀ j, aUp fl x.m.n x.m.o 0 j = if j = x.m.o then [x.m.n] else fl j := fun j => by
    show fset fl x.m.o (x.m.n :: fl x.m.o) j = _
    rw [hO]; rfl
  rcases sim_take W4.g (o := on) (by omega) W4.rep with ⟨e5, hF4⟩ | ⟨j, p, l, j1, j2, hF4, hi, e5, G5⟩
  · have := hF4 x.m.o ho (by omega)
    rw [f4, if_pos rfl] at this; cases this
  have hj : j = x.m.o := Classical.byContradiction fun hne => by
    rw [f4, if_neg hne, hF j j1 (by omega)] at hF4; cases hF4
  subst hj
  rw [f4, if_pos rfl] at hF4
  cases hF4
  obtain ⟨W5, M5⟩ := W4.mv G5
  have ef : fset (aUp fl x.m.n x.m.o 0) x.m.o [] = fset fl x.m.o [] := funext fun j => by
    unfold fset
    by_cases e : j = x.m.o
    · rw [if_pos e, if_pos e]
    · rw [if_neg e, if_neg e, f4, if_neg e]
  rw [ef] at W5
  rw [en]
  refine ⟨by simp only [e5]; simp, W5, by rw [M5.o, o4], by rw [M5.n, M4.n]; exact en3, by rw [M5.k.1, M4.k.1]; rfl, ?_, pk3.trans (M4.pk.trans M5.pk)⟩
  intro z hz y hy1 hy2
  rw [M5.k.2 z hz y hy1 hy2, M4.k.2 z hz y hy1 hy2]
  exact hM z hz y hy1 hy2

theorem SI.pool' (I : SI c x hp S fl L cl fr pl) {x' : BU} {fl' : Nat → List Nat} (W : WS S c x' fl' L') (hk : Keep L x.st x'.st) (hpk : PK L x.m x'.m) : SI c x' hp S fl' L' cl fr pl :=
  I.pool W (fun q hq => hpk _ (I.w.rep.ps q hq).1 q cov_self) fun q hq o h1 h2 => hk (q, 0) (I.w.rep.ps q hq).1 o h1 (by simpa using h2)

theorem range_tail (n : Nat) (hn : 2 ≤ n) : List.range n = 0 :: List.range' 1 (n - 1) ∧ List.range' 1 (n - 1) ≠ [] := by
  obtain ⟨m, rfl⟩ : ∃ m, n = m + 2 := ⟨n - 2, by omega⟩
  refine ⟨by rw [List.range_eq_range', List.range'_succ]; rfl, fun e => ?_⟩
  have := congrArg List.length e
  simp at this

theorem sim_bornC (I : SI c x hp S fl L cl fr pl) (hk : k < 8) (hqL : (q, 0) ∈ L) (hS : ¬ S q) (hpl : pl k = []) :
    let b := bornU c x hp q k
    let t := takeC c b.1 b.2 q k
    t.2.2 = adr c q ∧ SI c t.1 t.2.1 (fun p => S p ∨ p = q) fl L (fset cl q k) (fset fr q (List.range' 1 (cnt k - 1))) (fset pl k [q]) ∧ t.1.m.n = x.m.n ∧ t.1.m.o = x.m.o ∧ t.1.st.n = x.st.n ∧ ∀ o, ¬ (4096 * q ≤ o ∧ o < 4096 * (q + 1)) → t.1.st.M o = x.st.M o := by
  intro b t
  obtain ⟨I1, n1, o1, s1, m1⟩ := sim_born I hk hqL hS
  obtain ⟨r1, r2⟩ := range_tail (cnt k) (cnt_wdt hk).2.2.1
  rw [hpl] at I1
  obtain ⟨t1, t2, t3, t4, t5⟩ := sim_takeC (q := q) (l' := []) (j := 0) (f := List.range' 1 (cnt k - 1)) I1 hk (by rw [fset_same]) (by rw [fset_same, r1])
  have ff : ∀ {α : Type} (g : Nat → α) (a b : α), fset (fset g q a) q b = fset g q b := fun g a b => by funext i; unfold fset; split <;> rfl
  have ffk : ∀ {α : Type} (g : Nat → α) (a b : α), fset (fset g k a) k b = fset g k b := fun g a b => by funext i; unfold fset; split <;> rfl
  rw [ff, ffk, if_neg r2] at t2
  exact ⟨by rw [t1]; simp, t2, t4.trans n1, t5.trans o1, by rw [t3]; exact s1, fun o ho => by rw [t3]; exact m1 o ho⟩
end
end Go.Proofs.YteemmpkhdllapaaDoor
