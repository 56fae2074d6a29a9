/- slab: a new page; a cell is given back; the pool's Need: by what the state stands for. No condition. -/
import Derived.Test.YteemmpkhdllapaaDoorZE8
set_option linter.unusedSimpArgs false
set_option linter.unusedVariables false
namespace Go.Proofs.YteemmpkhdllapaaDoor
open Go.V Classical

section
variable {c : Cfg} {x : BU} {hp : Nat → Int} {S : Nat → Prop} {fl : Nat → List Nat} {L : List PBk} {cl : Nat → Nat} {fr pl : Nat → List Nat} {p k q j : Nat} {f l' : List Nat}

theorem hangM_o (m : MS) (pt : Nat → Int) (page : Int) (k : Nat) : (hangM m pt page k).o = m.o ∧ (hangM m pt page k).n = m.n ∧ (hangM m pt page k).bt = m.bt := by
  unfold hangM; simp only []; split <;> simp

theorem unhangM_o (m : MS) (page : Int) : (unhangM m page).o = m.o ∧ (unhangM m page).n = m.n ∧ (unhangM m page).bt = m.bt := by
  refine ⟨?_, ?_, ?_⟩
  · unfold unhangM unB unA; simp only [chainU_o]; split <;> (try simp only [chainU_o]) <;> split <;> simp
  · unfold unhangM unB unA; simp only [chainU_n]; split <;> (try simp only [chainU_n]) <;> split <;> simp
  · unfold unhangM unB unA; simp only [chainU_bt]; split <;> (try simp only [chainU_bt]) <;> split <;> simp

theorem wr_M {st : Sto} {a v : Int} {o : Nat} (h : o < (a - c.base).toNat ∨ (a - c.base).toNat + 8 ≤ o) : (st.wr c a v).M o = st.M o := by
  show (if _ then _ else _) = _
  rw [if_neg (by omega)]

theorem linkS_rd (W : KI c x) {q : Nat} (hq : q < x.m.n) (hk : k < 8) {st : Sto} : ∀ (i : Nat), i ≤ cnt k → (∀ j, j < i → (linkS c st (adr c q) (wdt k) (cnt k) i).rd c (adr c q + ((j * wdt k : Nat) : Int)) = if j + 1 = cnt k then 0 else adr c q + (((j + 1) * wdt k : Nat) : Int)) ∧
    ∀ o, ¬ (4096 * q ≤ o ∧ o < 4096 * (q + 1)) → (linkS c st (adr c q) (wdt k) (cnt k) i).M o = st.M o
  | 0, _ => ⟨fun j hj => absurd hj (by omega), fun _ _ => rfl⟩
  | i + 1, hi => by
    obtain ⟨ih1, ih2⟩ := linkS_rd W hq hk (st := st) i (by omega)
    have bb := bu_bounds W.g W.ok.m
    obtain ⟨c1, c2, c3, c4, c5, c6⟩ := cnt_wdt hk
    have hin := (cell_in hk (show i < cnt k by omega)).2
    have hv : U64 (if i + 1 = cnt k then 0 else adr c q + (((i + 1) * wdt k : Nat) : Int)) := by
      split
      · unfold U64; omega
      · have : (i + 1) * wdt k ≤ 4096 := by rw [← c1]; exact Nat.mul_le_mul_right _ hi
        unfold adr U64; omega
    refine ⟨fun j hj => ?_, fun o ho => ?_⟩
    · show (Sto.wr _ c _ _).rd c _ = _
      by_cases e : j = i
      · subst e; exact rd_wr_same hv
      · have hlt : j < i := by omega
        have h2 : j * wdt k + wdt k ≤ i * wdt k := by rw [← Nat.succ_mul]; exact Nat.mul_le_mul_right _ hlt
        rw [rd_wr_other (by unfold adr; omega) (by unfold adr; omega) (.inl (by omega))]
        exact ih1 j hlt
    · show (Sto.wr _ c _ _).M o = _
      rw [wr_M, ih2 o ho]
      have e1 : (adr c q + ((i * wdt k : Nat) : Int) - c.base).toNat = 4096 * q + i * wdt k := by unfold adr; omega
      rw [e1]
      omega

theorem Lnk_range {st : Sto} {a : Int} {w n : Nat} (h : ∀ j, j < n → st.rd c (a + ((j * w : Nat) : Int)) = if j + 1 = n then 0 else a + (((j + 1) * w : Nat) : Int)) : ∀ d i, i + d = n → Lnk c st a w (List.range' i d)
  | 0, _, _ => trivial
  | d + 1, i, hd => by
    rw [List.range'_succ]
    refine ⟨?_, Lnk_range h d (i + 1) (by omega)⟩
    rw [h i (by omega)]
    cases d with
    | zero => rw [if_pos (by omega)]; rfl
    | succ d => rw [if_neg (by omega), List.range'_succ]; rfl

theorem sim_born (I : SI c x hp S fl L cl fr pl) (hk : k < 8) (hqL : (q, 0) ∈ L) (hS : ¬ S q) :
    SI c (bornU c x hp q k).1 (bornU c x hp q k).2 (fun p => S p ∨ p = q) fl L (fset cl q k) (fset fr q (List.range (cnt k))) (fset pl k (q :: pl k)) ∧
    (bornU c x hp q k).1.m.n = x.m.n ∧ (bornU c x hp q k).1.m.o = x.m.o ∧ (bornU c x hp q k).1.st.n = x.st.n ∧ ∀ o, ¬ (4096 * q ≤ o ∧ o < 4096 * (q + 1)) → (bornU c x hp q k).1.st.M o = x.st.M o := by
  have W := I.ki
  have hqn : q < x.m.n := I.w.rep.ltL hqL
  have hc := cnt_wdt hk
  have e1 : (slabU x.m q k).pg = putP x.m.pg q (slabP k) := by
    unfold slabU
    rw [if_pos (show slabOk x.m q k from ⟨by omega, by omega, by omega, by omega⟩)]
    simp only [setPg, Int.toNat_natCast]
  have W1 := ki_slab (i := q) (p := k) W
  have e2 : (firstU (slabU x.m q k) q 0).pg = putP x.m.pg q (firstP (slabP k) 0) := by
    rw [firstU_pg (k := k) (by simpa using hqn) (by rw [e1, putP_same]; rfl) (by rw [e1, putP_same]; rfl) ⟨by omega, by omega⟩, e1, putP_same]
    funext r
    by_cases e : r = q
    · subst e; rw [putP_same, putP_same]
    · rw [putP_ne _ _ e, putP_ne _ _ e, putP_ne _ _ e]
  have W2 := ki_first (x := x.wm (slabU x.m q k)) (i := q) (p := 0) W1
  have PI := PgI.born hk
  have nq : q ∉ pl k := fun h => hS (I.plS hk h).2.2.1
  generalize hM1 : firstU (slabU x.m q k) q 0 = M1 at e2 W2
  have o1 : M1.o = x.m.o := by rw [← hM1]; simp
  have n1 : M1.n = x.m.n := by rw [← hM1]; simp
  have b1 : M1.bt = x.m.bt := by rw [← hM1]; simp
  have hch0 : CS M1.pg (pl k) (-1) (-1) := by
    rw [e2]
    exact CS_congr (fun r hr => by rw [putP_ne _ _ (fun e : r = q => nq (e ▸ hr))]; exact ⟨rfl, rfl⟩) (I.ch k hk)
  have nd : (q :: pl k).Nodup := List.nodup_cons.2 ⟨nq, (I.pn k hk).1⟩
  obtain ⟨u1, u2⟩ := hang_sim (m := M1) (pt := hp) (p := q) (k := k) (l := pl k) (fun r hr => by
    rw [n1, e2]
    by_cases e : r = q
    · subst e; rw [putP_same]; exact ⟨hqn, PI.k0⟩
    · rw [putP_ne _ _ e]
      have h := I.plS hk ((List.mem_cons.1 hr).resolve_left e)
      exact ⟨h.1, h.2.1⟩) nd (I.hd k hk) hch0
  obtain ⟨ho, hn, hb⟩ := hangM_o M1 hp q k
  obtain ⟨r1, r2⟩ := linkS_rd W hqn hk (st := x.st) (cnt k) (Nat.le_refl _)
  have eB : bornU c x hp q k = (⟨linkS c x.st (adr c q) (wdt k) (cnt k) (cnt k), x.hd, hangM M1 hp q k⟩, fset hp k q) := by unfold bornU; rw [hM1]
  rw [eB]
  refine ⟨?_, hn.trans n1, ho.trans o1, by simp, r2⟩
  have W3 : KI c ⟨linkS c x.st (adr c q) (wdt k) (cnt k) (cnt k), x.hd, hangM M1 hp q k⟩ := ki_sto (ki_hang (x := x.wm M1) (pt := hp) (page := q) (k := k) W2) (by simp)
  exact I.step (S' := fun p => S p ∨ p = q) (f' := List.range (cnt k)) (l' := q :: pl k) (hp' := fset hp k q) hk hqL (.inr (.inr rfl)) (fun h => absurd h hS) W3 (ho.trans o1) (hn.trans n1) (hb.trans b1) (by simp)
    (fun r hr => by simp [hr]) (fun r hr hr2 => by rw [u2.o r (by simp [hr, hr2]), e2, putP_ne _ _ hr])
    (fun r hr _ => by
      obtain ⟨a, b, e | e⟩ := u2.i r
      · exact ⟨a, b, .inl (by rw [e, e2, putP_ne _ _ hr])⟩
      · exact ⟨a, b, .inr (by rw [e, e2, putP_ne _ _ hr])⟩)
    (fun _ => ⟨u2.pgI (by rw [e2, putP_same]; exact PI), List.nodup_range, fun i hi => List.mem_range.1 hi, fun e => by have := congrArg List.length e; rw [List.length_range] at this; simp at this; omega, by
      rw [List.range_eq_range']; exact Lnk_range r1 (cnt k) 0 (by omega)⟩) (fun h => absurd (.inr rfl) h)
    ⟨nd, fun r => by
      by_cases e : r = q
      · subst e
        have : List.range (cnt k) ≠ [] := fun e => by have := congrArg List.length e; rw [List.length_range] at this; simp at this; omega
        simp [this]
      · simp [e]⟩ u1 rfl r2

theorem findU_some (I : SI c x hp S fl L cl fr pl) {a : Int} {q j : Nat} (h : findU c x.m a = some (q, j)) : S q ∧ j < cnt (cl q) ∧ j ∉ fr q ∧ a = adr c q + ((j * wdt (cl q) : Nat) : Int) := by
  obtain ⟨h1, h2, h3, h4⟩ := findU_lt h
  have hS := I.w.k4 h1 h2
  have PI := I.pg q hS
  have hk := I.k8 q hS
  rw [PI.k2, Int.toNat_natCast] at h4
  have hj : j < 256 := by
    unfold findU at h
    simp only [] at h
    split at h
    · cases h
    · split at h
      · cases h
      · split at h
        · cases h
          refine Nat.div_lt_of_lt_mul ?_
          have : 16 ≤ wdt (x.m.pg ((a - c.base) / 4096).toNat 2).toNat := by unfold wdt; have := Nat.two_pow_pos (x.m.pg ((a - c.base) / 4096).toNat 2).toNat; omega
          have := Nat.mul_le_mul_right 256 this
          omega
        · cases h
  rw [PI.bit j hj] at h3
  simp at h3
  exact ⟨hS, h3.1, h3.2, h4⟩

theorem findU_cell (I : SI c x hp S fl L cl fr pl) {q j : Nat} (hS : S q) (hj : j < cnt (cl q)) (hn : j ∉ fr q) : findU c x.m (adr c q + ((j * wdt (cl q) : Nat) : Int)) = some (q, j) := by
  have hqn := I.w.rep.sn hS
  have PI := I.pg q hS
  have hk := I.k8 q hS
  have hin := cell_in hk hj
  have e1 : ((adr c q + ((j * wdt (cl q) : Nat) : Int) - c.base) / 4096).toNat = q := by unfold adr; omega
  have e2 : ((adr c q + ((j * wdt (cl q) : Nat) : Int) - c.base) % 4096).toNat = j * wdt (cl q) := by unfold adr; have := wdt_pos (cl q); omega
  unfold findU
  rw [if_neg (by unfold adr; omega)]
  simp only []
  rw [e1, e2, PI.k2, Int.toNat_natCast, Nat.mul_mod_left, Nat.mul_div_cancel _ (wdt_pos _), if_neg (by rw [PI.k0]; simp), if_pos]
  rw [PI.bit j (by have := (cnt_wdt hk).2.2.2.1; omega)]
  simp [hj, hn]

theorem sim_giveC (I : SI c x hp S fl L cl fr pl) {q j : Nat} (hS : S q) (hck : cl q = k) (hj : j < cnt k) (hn : j ∉ fr q) (hl : (fr q).length + 1 < cnt k) {a : Int} (ha : a = adr c q + ((j * wdt k : Nat) : Int)) :
    (giveSU c x hp a).2.2 = 0 ∧ SI c (giveSU c x hp a).1 (giveSU c x hp a).2.1 S fl L cl (fset fr q (j :: fr q)) (fset pl k (if fr q = [] then q :: pl k else pl k)) ∧
    (giveSU c x hp a).1.m.n = x.m.n ∧ (giveSU c x hp a).1.m.o = x.m.o ∧ (giveSU c x hp a).1.st.n = x.st.n ∧ ∀ o, ¬ (4096 * q + j * wdt k ≤ o ∧ o < 4096 * q + j * wdt k + 8) → (giveSU c x hp a).1.st.M o = x.st.M o := by
  subst hck
  have hk := I.k8 q hS
  have hf := findU_cell I hS hj hn
  rw [← ha] at hf
  have hqn := I.w.rep.sn hS
  have W := I.ki
  have bb := bu_bounds W.g W.ok.m
  have T := W.ok.m.pg q hqn
  have PI := I.pg q hS
  have LK := I.lk q hS
  obtain ⟨nd, hb⟩ := I.nd q hS
  have hc := cnt_wdt hk
  have hin := cell_in hk hj
  have hcl : fset cl q (cl q) = cl := fset_self rfl
  have hbit : pbit (x.m.pg q) j ≠ false := by rw [PI.bit j (by omega)]; simp [hj, hn]
  have em1 : (ownU x.m q j false).pg = putP x.m.pg q (pown (x.m.pg q) j false) := ownU_pg hqn PI.k0 PI.k2 hj hbit
  have W1 := ki_own (i := q) (p := j) (l := false) W
  have q0 : pown (x.m.pg q) j false 0 = 4 := by unfold pown; rw [if_neg (by omega), if_neg (by omega)]; exact PI.k0
  have q2 : pown (x.m.pg q) j false 2 = cl q := by unfold pown; rw [if_neg (by omega), if_neg (by omega)]; exact PI.k2
  have q45 : pown (x.m.pg q) j false 4 = x.m.pg q 4 ∧ pown (x.m.pg q) j false 5 = x.m.pg q 5 := by unfold pown; constructor <;> rw [if_neg (by omega), if_neg (by omega)]
  have PI2 : PgI (firstP (pown (x.m.pg q) j false) j) (cl q) (j :: fr q) := PI.give T hk hj hn (by omega)
  have th := th_cell W hqn hk hj
  rw [← ha] at th
  have ea : (a - c.base).toNat = 4096 * q + j * wdt (cl q) := by rw [ha]; unfold adr; omega
  have nd' : (j :: fr q).Nodup := List.nodup_cons.2 ⟨hn, nd⟩
  have hb' : ∀ i ∈ j :: fr q, i < cnt (cl q) := fun i hi => (List.mem_cons.1 hi).elim (fun e => e ▸ hj) (hb i)
  have h3 : x.m.pg q 3 ≠ 1 := by rw [PI.k3]; omega
  -- the links
  have lnk : ∀ v, U64 v → v = lkV (adr c q) (wdt (cl q)) (fr q) → Lnk c (x.st.wr c a v) (adr c q) (wdt (cl q)) (j :: fr q) := fun v hv ev => by
    refine ⟨?_, Lnk_congr (fun i hi => ?_) LK⟩
    · rw [← ha, rd_wr_same hv, ev]
    · have hij : i ≠ j := fun e => hn (e ▸ hi)
      have hi2 := cell_in hk (hb i hi)
      rw [ha]
      refine rd_wr_other (by unfold adr; omega) (by unfold adr; omega) ?_
      rcases Nat.lt_or_gt_of_ne hij with h | h
      · have : i * wdt (cl q) + wdt (cl q) ≤ j * wdt (cl q) := by rw [← Nat.succ_mul]; exact Nat.mul_le_mul_right _ h
        left; omega
      · have : j * wdt (cl q) + wdt (cl q) ≤ i * wdt (cl q) := by rw [← Nat.succ_mul]; exact Nat.mul_le_mul_right _ h
        right; omega
  have mem : ∀ v o, ¬ (4096 * q + j * wdt (cl q) ≤ o ∧ o < 4096 * q + j * wdt (cl q) + 8) → (x.st.wr c a v).M o = x.st.M o := fun v o ho => wr_M (by rw [ea]; omega)
  have mem' : ∀ v o, ¬ (4096 * q ≤ o ∧ o < 4096 * (q + 1)) → (x.st.wr c a v).M o = x.st.M o := fun v o ho => mem v o (by omega)
  generalize hM1 : ownU x.m q j false = M1 at em1 W1
  have o1 : M1.o = x.m.o := by rw [← hM1]; simp
  have n1 : M1.n = x.m.n := by rw [← hM1]; simp
  have b1 : M1.bt = x.m.bt := by rw [← hM1]; simp
  have k2 : (x.m.pg q 2).toNat = cl q := by rw [PI.k2]; rfl
  cases hfr : fr q with
  | nil =>
    have h6 : x.m.pg q 6 = -1 := by rw [PI.k6, hfr]; rfl
    have nq : q ∉ pl (cl q) := fun h => (I.plS hk h).2.2.2.2 hfr
    have ndl : (q :: pl (cl q)).Nodup := List.nodup_cons.2 ⟨nq, (I.pn _ hk).1⟩
    have hch0 : CS M1.pg (pl (cl q)) (-1) (-1) := by
      rw [em1]
      exact CS_congr (fun r hr => by rw [putP_ne _ _ (fun e : r = q => nq (e ▸ hr))]; exact ⟨rfl, rfl⟩) (I.ch _ hk)
    obtain ⟨u1, u2⟩ := hang_sim (m := M1) (pt := hp) (p := q) (k := cl q) (l := pl (cl q)) (fun r hr => by
      rw [n1, em1]
      by_cases e : r = q
      · subst e; rw [putP_same]; exact ⟨hqn, q0⟩
      · rw [putP_ne _ _ e]
        have h := I.plS hk ((List.mem_cons.1 hr).resolve_left e)
        exact ⟨h.1, h.2.1⟩) ndl (I.hd _ hk) hch0
    obtain ⟨ho, hn', hb1⟩ := hangM_o M1 hp q (cl q)
    have W2 := ki_hang (x := x.wm M1) (pt := hp) (page := q) (k := cl q) W1
    have hq2 : ∃ a b, (hangM M1 hp q (cl q)).pg q = chainP (pown (x.m.pg q) j false) a b ∨ (hangM M1 hp q (cl q)).pg q = pown (x.m.pg q) j false := by
      obtain ⟨a, b, e | e⟩ := u2.i q
      · exact ⟨a, b, .inl (by rw [e, em1, putP_same])⟩
      · exact ⟨a, b, .inr (by rw [e, em1, putP_same])⟩
    have h02 : (hangM M1 hp q (cl q)).pg q 0 = 4 ∧ (hangM M1 hp q (cl q)).pg q 2 = cl q := by
      obtain ⟨a, b, e | e⟩ := hq2
      · rw [e]; exact ⟨q0, q2⟩
      · rw [e]; exact ⟨q0, q2⟩
    have em3 := firstU_pg (d := j) (by rw [hn', n1]; exact hqn) h02.1 h02.2 ⟨by omega, by omega⟩
    have PI3 : PgI (firstP ((hangM M1 hp q (cl q)).pg q) j) (cl q) [j] := by
      rw [hfr] at PI2
      obtain ⟨a, b, e | e⟩ := hq2
      · rw [e, firstP_chainP]; exact PI2.chain a b
      · rw [e]; exact PI2
    have eG : giveSU c x hp a = (⟨x.st.wr c a 0, x.hd, firstU (hangM M1 hp q (cl q)) q j⟩, fset hp (cl q) q, 0) := by
      unfold giveSU
      rw [hf]
      simp only [k2, hM1]
      rw [if_neg h3, if_pos (by rw [h6]; decide)]
      unfold wrU
      rw [if_pos th]
    have W3 : KI c ⟨x.st.wr c a 0, x.hd, firstU (hangM M1 hp q (cl q)) q j⟩ := ki_sto (ki_first (x := x.wm (hangM M1 hp q (cl q))) (i := q) (p := j) W2) rfl
    rw [eG, if_pos rfl]
    refine ⟨rfl, ?_, by simp [hn', n1], by simp [ho, o1], rfl, mem 0⟩
    have hLk := lnk 0 (by unfold U64; omega) (by rw [hfr]; rfl)
    rw [hfr] at hLk nd' hb'
    have := I.step (S' := S) (f' := [j]) (l' := q :: pl (cl q)) (hp' := fset hp (cl q) q) hk (I.w.rep.ps q hS).1 (.inl hS) (fun _ => rfl) W3 (by simp [ho, o1]) (by simp [hn', n1]) (by simp [hb1, b1]) rfl (fun _ _ => Iff.rfl)
      (fun r hr hr2 => by rw [em3, putP_ne _ _ hr, u2.o r (by simp [hr, hr2]), em1, putP_ne _ _ hr])
      (fun r hr _ => by
        obtain ⟨a, b, e | e⟩ := u2.i r
        · exact ⟨a, b, .inl (by rw [em3, putP_ne _ _ hr, e, em1, putP_ne _ _ hr])⟩
        · exact ⟨a, b, .inr (by rw [em3, putP_ne _ _ hr, e, em1, putP_ne _ _ hr])⟩)
      (fun _ => ⟨by rw [em3, putP_same]; exact PI3, nd', hb', fun e => (by cases e), hLk⟩) (fun h => absurd hS h)
      ⟨ndl, fun r => by
        by_cases e : r = q
        · subst e; simp [hS]
        · simp [e]⟩ (CS_congr (pg := (hangM M1 hp q (cl q)).pg) (fun r hr => by
          rw [em3]
          by_cases e : r = q
          · subst e
            rw [putP_same]
            unfold firstP
            constructor <;> rw [if_neg (by omega)]
          · rw [putP_ne _ _ e]; exact ⟨rfl, rfl⟩) u1) rfl (mem' 0)
    rw [hcl] at this
    exact this
  | cons i f =>
    have h6 : x.m.pg q 6 = (i : Int) := by rw [PI.k6, hfr]; rfl
    have hi : i < cnt (cl q) := hb i (by rw [hfr]; exact List.mem_cons_self ..)
    have hin2 := cell_in hk hi
    have ev := cellW_eq W hqn hk hi
    have em3 := firstU_pg (d := j) (by rw [n1]; exact hqn) (by rw [em1, putP_same]; exact q0) (by rw [em1, putP_same]; exact q2) ⟨by omega, by omega⟩
    have em4 : (firstU M1 q j).pg = putP x.m.pg q (firstP (pown (x.m.pg q) j false) j) := by
      rw [em3, em1, putP_same]
      funext r
      by_cases e : r = q
      · subst e; rw [putP_same, putP_same]
      · rw [putP_ne _ _ e, putP_ne _ _ e, putP_ne _ _ e]
    have eG : giveSU c x hp a = (⟨x.st.wr c a (adr c q + ((i * wdt (cl q) : Nat) : Int)), x.hd, firstU M1 q j⟩, hp, 0) := by
      unfold giveSU
      rw [hf]
      simp only [k2, hM1]
      rw [if_neg h3, if_neg (by rw [h6]; omega), h6, ev]
      unfold wrU
      rw [if_pos th]
    have W3 : KI c ⟨x.st.wr c a (adr c q + ((i * wdt (cl q) : Nat) : Int)), x.hd, firstU M1 q j⟩ := ki_sto (ki_first (x := x.wm M1) (i := q) (p := j) W1) rfl
    rw [eG, if_neg (by simp)]
    refine ⟨rfl, ?_, by simp [n1], by simp [o1], rfl, mem _⟩
    have hLk := lnk (adr c q + ((i * wdt (cl q) : Nat) : Int)) (by unfold adr U64; omega) (by rw [hfr]; rfl)
    rw [hfr] at hLk nd' hb' PI2
    have hqp : q ∈ pl (cl q) := ((I.pn _ hk).2 q).2 ⟨hS, rfl, by rw [hfr]; simp⟩
    have := I.step (S' := S) (f' := j :: i :: f) (l' := pl (cl q)) (hp' := hp) hk (I.w.rep.ps q hS).1 (.inl hS) (fun _ => rfl) W3 (by simp [o1]) (by simp [n1]) (by simp [b1]) rfl (fun _ _ => Iff.rfl)
      (fun r hr hr2 => by rw [em4, putP_ne _ _ hr]) (fun r hr _ => ⟨0, 0, .inr (by rw [em4, putP_ne _ _ hr])⟩)
      (fun _ => ⟨by rw [em4, putP_same]; exact PI2, nd', hb', fun e => (by cases e), hLk⟩) (fun h => absurd hS h)
      ⟨(I.pn _ hk).1, fun r => by
        by_cases e : r = q
        · subst e; simp [hS, hqp]
        · simp [e]⟩ (CS_congr (pg := x.m.pg) (fun r hr => by
          rw [em4]
          by_cases e : r = q
          · subst e
            rw [putP_same]
            unfold firstP
            constructor
            · rw [if_neg (by omega)]; exact q45.1
            · rw [if_neg (by omega)]; exact q45.2
          · rw [putP_ne _ _ e]; exact ⟨rfl, rfl⟩) (I.ch _ hk)) (fset_self (I.hd _ hk)).symm (mem' _)
    rw [hcl] at this
    exact this
end
end Go.Proofs.YteemmpkhdllapaaDoor
