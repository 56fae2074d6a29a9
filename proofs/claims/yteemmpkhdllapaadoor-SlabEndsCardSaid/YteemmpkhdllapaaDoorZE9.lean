/- slab: a new page; a cell is given back; the pool's Need: by what the state stands for. No condition. -/
import Derived.Test.YteemmpkhdllapaaDoorZE8
set_option linter.unusedSimpArgs false
set_option linter.unusedVariables false
namespace Go.Proofs.YteemmpkhdllapaaDoor
open Go.V Classical

section
variable {c : Cfg} {x : BU} {hp : Nat → Int} {S : Nat → Prop} {fl : Nat → List Nat} {L : List PBk} {cl : Nat → Nat} {fr pl : Nat → List Nat} {p k q j : Nat} {f l' : List Nat}

theorem hangM_o (m : MS) (pt : Nat → Int) (page : Int) (k : Nat) : (hangM m pt page k).o = m.o ∧ (hangM m pt page k).n = m.n ∧ (hangM m pt page k).bt = m.bt := by
  unfold hangM; simp only []; split <;> simp

theorem wr_M {st : Sto} {a v : Int} {o : Nat} (h : o < (a - c.base).toNat ∨ (a - c.base).toNat + 8 ≤ o) : (st.wr c a v).M o = st.M o := by
  show (if _ then _ else _) = _
  rw [if_neg (by omega)]

theorem linkS_rd (W : KI c x) {q : Nat} (hq : q < x.m.n) (hk : k < 8) {st : Sto} : ∀ (i : Nat), i ≤ cnt k → (∀ j, j < i → (linkS c st (adr c q) (wdt k) (cnt k) i).rd c (adr c q + ((j * wdt k : Nat) : Int)) = if j + 1 = cnt k then 0 else adr c q + (((j + 1) * wdt k : Nat) : Int)) ∧
    ∀ o, ¬ (4096 * q ≤ o ∧ o < 4096 * (q + 1)) → (linkS c st (adr c q) (wdt k) (cnt k) i).M o = st.M o
  | 0, _ => ⟨fun j hj => absurd hj (by omega), fun _ _ => rfl⟩
  | i + 1, hi => by
    obtain ⟨ih1, ih2⟩ := linkS_rd W hq hk (st := st) i (by omega)
    have bb := bu_bounds W.g W.ok.m
    obtain ⟨c1, c2, c3, c4, c5, c6⟩ := cnt_wdt hk
    have hin := (cell_in hk (show i < cnt k by omega)).2
    have hv : U64 (if i + 1 = cnt k then 0 else adr c q + (((i + 1) * wdt k : Nat) : Int)) := by
      split
      · unfold U64; omega
      · have : (i + 1) * wdt k ≤ 4096 := by rw [← c1]; exact Nat.mul_le_mul_right _ hi
        unfold adr U64; omega
    refine ⟨fun j hj => ?_, fun o ho => ?_⟩
    · show (Sto.wr _ c _ _).rd c _ = _
      by_cases e : j = i
      · subst e; exact rd_wr_same hv
      · have hlt : j < i := by omega
        have h2 : j * wdt k + wdt k ≤ i * wdt k := by rw [← Nat.succ_mul]; exact Nat.mul_le_mul_right _ hlt
        rw [rd_wr_other (by unfold adr; omega) (by unfold adr; omega) (.inl (by omega))]
        exact ih1 j hlt
    · show (Sto.wr _ c _ _).M o = _
      rw [wr_M, ih2 o ho]
      have e1 : (adr c q + ((i * wdt k : Nat) : Int) - c.base).toNat = 4096 * q + i * wdt k := by unfold adr; omega
      rw [e1]
      omega

theorem Lnk_range {st : Sto} {a : Int} {w n : Nat} (h : ∀ j, j < n → st.rd c (a + ((j * w : Nat) : Int)) = if j + 1 = n then 0 else a + (((j + 1) * w : Nat) : Int)) : ∀ d i, i + d = n → Lnk c st a w (List.range' i d)
  | 0, _, _ => trivial
  | d + 1, i, hd => by
    rw [List.range'_succ]
    refine ⟨?_, Lnk_range h d (i + 1) (by omega)⟩
    rw [h i (by omega)]
    cases d with
    | zero => rw [if_pos (by omega)]; rfl
    | succ d => rw [if_neg (by omega), List.range'_succ]; rfl

theorem sim_born (I : SI c x hp S fl L cl fr pl) (hk : k < 8) (hqL : (q, 0) ∈ L) (hS : ¬ S q) :
    SI c (bornU c x hp q k).1 (bornU c x hp q k).2 (fun p => S p ∨ p = q) fl L (fset cl q k) (fset fr q (List.range (cnt k))) (fset pl k (q :: pl k)) ∧
    (bornU c x hp q k).1.m.n = x.m.n ∧ (bornU c x hp q k).1.m.o = x.m.o ∧ (bornU c x hp q k).1.st.n = x.st.n ∧ ∀ o, ¬ (4096 * q ≤ o ∧ o < 4096 * (q + 1)) → (bornU c x hp q k).1.st.M o = x.st.M o := by
  have W := I.ki
  have hqn : q < x.m.n := I.w.rep.ltL hqL
  have hc := cnt_wdt hk
  have e1 : (slabU x.m q k).pg = putP x.m.pg q (slabP k) := by
    unfold slabU
    rw [if_pos (show slabOk x.m q k from ⟨by omega, by omega, by omega, by omega⟩)]
    simp only [setPg, Int.toNat_natCast]
  have W1 := ki_slab (i := q) (p := k) W
  have e2 : (firstU (slabU x.m q k) q 0).pg = putP x.m.pg q (firstP (slabP k) 0) := by
    rw [firstU_pg (k := k) (by simpa using hqn) (by rw [e1, putP_same]; rfl) (by rw [e1, putP_same]; rfl) ⟨by omega, by omega⟩, e1, putP_same]
    funext r
    by_cases e : r = q
    · subst e; rw [putP_same, putP_same]
    · rw [putP_ne _ _ e, putP_ne _ _ e, putP_ne _ _ e]
  have W2 := ki_first (x := x.wm (slabU x.m q k)) (i := q) (p := 0) W1
  have PI := PgI.born hk
  have nq : q ∉ pl k := fun h => hS (I.plS hk h).2.2.1
  generalize hM1 : firstU (slabU x.m q k) q 0 = M1 at e2 W2
  have o1 : M1.o = x.m.o := by rw [← hM1]; simp
  have n1 : M1.n = x.m.n := by rw [← hM1]; simp
  have b1 : M1.bt = x.m.bt := by rw [← hM1]; simp
  have hch0 : CS M1.pg (pl k) (-1) (-1) := by
    rw [e2]
    exact CS_congr (fun r hr => by rw [putP_ne _ _ (fun e : r = q => nq (e ▸ hr))]; exact ⟨rfl, rfl⟩) (I.ch k hk)
  have nd : (q :: pl k).Nodup := List.nodup_cons.2 ⟨nq, (I.pn k hk).1⟩
  obtain ⟨u1, u2⟩ := hang_sim (m := M1) (pt := hp) (p := q) (k := k) (l := pl k) (fun r hr => by
    rw [n1, e2]
    by_cases e : r = q
    · subst e; rw [putP_same]; exact ⟨hqn, PI.k0⟩
    · rw [putP_ne _ _ e]
      have h := I.plS hk ((List.mem_cons.1 hr).resolve_left e)
      exact ⟨h.1, h.2.1⟩) nd (I.hd k hk) hch0
  obtain ⟨ho, hn, hb⟩ := hangM_o M1 hp q k
  obtain ⟨r1, r2⟩ := linkS_rd W hqn hk (st := x.st) (cnt k) (Nat.le_refl _)
  have eB : bornU c x hp q k = (⟨linkS c x.st (adr c q) (wdt k) (cnt k) (cnt k), x.hd, hangM M1 hp q k⟩, fset hp k q) := by unfold bornU; rw [hM1]
  rw [eB]
  refine ⟨?_, hn.trans n1, ho.trans o1, by simp, r2⟩
  have W3 : KI c ⟨linkS c x.st (adr c q) (wdt k) (cnt k) (cnt k), x.hd, hangM M1 hp q k⟩ := ki_sto (ki_hang (x := x.wm M1) (pt := hp) (page := q) (k := k) W2) (by simp)
  exact I.step (S' := fun p => S p ∨ p = q) (f' := List.range (cnt k)) (l' := q :: pl k) (hp' := fset hp k q) hk hqL (.inr (.inr rfl)) (fun h => absurd h hS) W3 (ho.trans o1) (hn.trans n1) (hb.trans b1) (by simp)
    (fun r hr => by simp [hr]) (fun r hr hr2 => by rw [u2.o r (by simp [hr, hr2]), e2, putP_ne _ _ hr])
    (fun r hr _ => by
      obtain ⟨a, b, e | e⟩ := u2.i r
      · exact ⟨a, b, .inl (by rw [e, e2, putP_ne _ _ hr])⟩
      · exact ⟨a, b, .inr (by rw [e, e2, putP_ne _ _ hr])⟩)
    (fun _ => ⟨u2.pgI (by rw [e2, putP_same]; exact PI), List.nodup_range, fun i hi => List.mem_range.1 hi, fun e => by have := congrArg List.length e; rw [List.length_range] at this; simp at this; omega, by
      rw [List.range_eq_range']; exact Lnk_range r1 (cnt k) 0 (by omega)⟩) (fun h => absurd (.inr rfl) h)
    ⟨nd, fun r => by
      by_cases e : r = q
      · subst e
        have : List.range (cnt k) ≠ [] := fun e => by have := congrArg List.length e; rw [List.length_range] at this; simp at this; omega
        simp [this]
      · simp [e]⟩ u1 rfl r2

theorem findU_some (I : SI c x hp S fl L cl fr pl) {a : Int} {q j : Nat} (h : findU c x.m a = some (q, j)) : S q ∧ j < cnt (cl q) ∧ j ∉ fr q ∧ a = adr c q + ((j * wdt (cl q) : Nat) : Int) := by
  obtain ⟨h1, h2, h3, h4⟩ := findU_lt h
  have hS := I.w.k4 h1 h2
  have PI := I.pg q hS
  have hk := I.k8 q hS
  rw [PI.k2, Int.toNat_natCast] at h4
  have hj : j < 256 := by
    unfold findU at h
    simp only [] at h
    split at h
    · cases h
    · split at h
      · cases h
      · split at h
        · cases h
          refine Nat.div_lt_of_lt_mul ?_
          have : 16 ≤ wdt (x.m.pg ((a - c.base) / 4096).toNat 2).toNat := by unfold wdt; have := Nat.two_pow_pos (x.m.pg ((a - c.base) / 4096).toNat 2).toNat; omega
          have := Nat.mul_le_mul_right 256 this
          omega
        · cases h
  rw [PI.bit j hj] at h3
  simp at h3
  exact ⟨hS, h3.1, h3.2, h4⟩

theorem findU_cell (I : SI c x hp S fl L cl fr pl) {q j : Nat} (hS : S q) (hj : j < cnt (cl q)) (hn : j ∉ fr q) : findU c x.m (adr c q + ((j * wdt (cl q) : Nat) : Int)) = some (q, j) := by
  have hqn := I.w.rep.sn hS
  have PI := I.pg q hS
  have hk := I.k8 q hS
  have hin := cell_in hk hj
  have e1 : ((adr c q + ((j * wdt (cl q) : Nat) : Int) - c.base) / 4096).toNat = q := by unfold adr; omega
  have e2 : ((adr c q + ((j * wdt (cl q) : Nat) : Int) - c.base) % 4096).toNat = j * wdt (cl q) := by unfold adr; have := wdt_pos (cl q); omega
  unfold findU
  rw [if_neg (by unfold adr; omega)]
  simp only []
  rw [e1, e2, PI.k2, Int.toNat_natCast, Nat.mul_mod_left, Nat.mul_div_cancel _ (wdt_pos _), if_neg (by rw [PI.k0]; simp), if_pos]
  rw [PI.bit j (by have := (cnt_wdt hk).2.2.2.1; omega)]
  simp [hj, hn]

end
end Go.Proofs.YteemmpkhdllapaaDoor
