/- slab: a cell is taken; a new page; a cell is given back; the pool's Need: by what the state stands for. No condition. -/
import Derived.Test.YteemmpkhdllapaaDoorZE7
set_option linter.unusedSimpArgs false
set_option linter.unusedVariables false
namespace Go.Proofs.YteemmpkhdllapaaDoor
open Go.V Classical

theorem firstP_chainP (P : Nat → Int) (a b d : Int) : firstP (chainP P a b) d = chainP (firstP P d) a b := by
  funext j
  unfold firstP chainP
  by_cases h6 : j = 6 <;> by_cases h4 : j = 4 <;> by_cases h5 : j = 5 <;> simp [h6, h4, h5] <;> omega

theorem fset_self {α : Type} {f : Nat → α} {k : Nat} {v : α} (h : f k = v) : fset f k v = f := by
  funext i
  unfold fset
  split
  · rename_i e; rw [e, h]
  · rfl

section
variable {c : Cfg} {x : BU} {hp : Nat → Int} {S : Nat → Prop} {fl : Nat → List Nat} {L : List PBk} {cl : Nat → Nat} {fr pl : Nat → List Nat} {p k q j : Nat} {f l' : List Nat}

theorem ownU_pg {m : MS} {l : Bool} (hq : q < m.n) (h4 : m.pg q 0 = 4) (hk : m.pg q 2 = k) (hj : j < cnt k) (hb : pbit (m.pg q) j ≠ l) : (ownU m q j l).pg = putP m.pg q (pown (m.pg q) j l) := by
  unfold ownU
  rw [if_pos (show ownOk m q j l from ⟨by omega, by omega, by rw [Int.toNat_natCast]; exact h4, by omega, by rw [Int.toNat_natCast, ncells_k hk]; omega, by rw [Int.toNat_natCast, Int.toNat_natCast]; exact hb⟩)]
  simp only [setPg, Int.toNat_natCast]

theorem firstU_pg {m : MS} {d : Int} (hq : q < m.n) (h4 : m.pg q 0 = 4) (hk : m.pg q 2 = k) (hd : -1 ≤ d ∧ d < cnt k) : (firstU m q d).pg = putP m.pg q (firstP (m.pg q) d) := by
  unfold firstU
  rw [if_pos (show firstOk m q d from ⟨by omega, by omega, by rw [Int.toNat_natCast]; exact h4, hd.1, by rw [Int.toNat_natCast, ncells_k hk]; exact hd.2⟩)]
  simp only [setPg, Int.toNat_natCast]

theorem cellW_eq (W : KI c x) (hq : q < x.m.n) (hk : k < 8) (hj : j < cnt k) : cellW (adr c q) j (wdt k) = adr c q + ((j * wdt k : Nat) : Int) := by
  have bb := bu_bounds W.g W.ok.m
  have h1 := (cell_in hk hj).1
  have h2 := (cnt_wdt hk).2.2.2.1
  unfold cellW
  rw [wU (z := (j : Int)) (by unfold U64; omega), ← Int.natCast_mul, wU (z := ((j * wdt k : Nat) : Int)) (by unfold U64; omega), wU (by unfold adr U64; omega)]

theorem th_cell (W : KI c x) (hq : q < x.m.n) (hk : k < 8) (hj : j < cnt k) : There c x.st.n (adr c q + ((j * wdt k : Nat) : Int)) 8 := by
  have h1 := (cell_in hk hj).2
  have sp := W.span
  exact .inr ⟨by unfold adr; omega, by rw [sp]; unfold adr; omega⟩

theorem hdE_lt {n : Nat} (h : ∀ j ∈ f, j < n) : -1 ≤ hdE f (-1) ∧ hdE f (-1) < n := by
  cases f with
  | nil => show -1 ≤ (-1 : Int) ∧ (-1 : Int) < n; omega
  | cons i f => have := h i (List.mem_cons_self ..); show (-1 : Int) ≤ (i : Int) ∧ (i : Int) < n; omega

theorem sim_takeC (I : SI c x hp S fl L cl fr pl) (hk : k < 8) (hpl : pl k = q :: l') (hfr : fr q = j :: f) :
    (takeC c x hp q k).2.2 = adr c q + ((j * wdt k : Nat) : Int) ∧ SI c (takeC c x hp q k).1 (takeC c x hp q k).2.1 S fl L cl (fset fr q f) (fset pl k (if f = [] then l' else q :: l')) ∧
    (takeC c x hp q k).1.st = x.st ∧ (takeC c x hp q k).1.m.n = x.m.n ∧ (takeC c x hp q k).1.m.o = x.m.o := by
  have hm : q ∈ pl k := by rw [hpl]; exact List.mem_cons_self ..
  obtain ⟨hqn, h4, hS, hck, _⟩ := I.plS hk hm
  have W := I.ki
  have bb := bu_bounds W.g W.ok.m
  have T := W.ok.m.pg q hqn
  have PI := I.pg q hS
  have LK := I.lk q hS
  obtain ⟨nd, hb⟩ := I.nd q hS
  have hlen := I.len hS
  rw [hck, hfr] at PI LK hlen
  rw [hfr] at nd hb
  rw [hck] at hb
  have hj : j < cnt k := hb j (List.mem_cons_self ..)
  have hbf : ∀ i ∈ f, i < cnt k := fun i hi => hb i (List.mem_cons_of_mem _ hi)
  have ndf := List.nodup_cons.1 nd
  have hc := cnt_wdt hk
  have e6 : x.m.pg q 6 = (j : Int) := PI.k6
  have e5 : nextW (adr c q) (x.st.rd c (adr c q + ((j * wdt k : Nat) : Int))) (wdt k) = hdE f (-1) := by
    rw [LK.1]
    unfold nextW
    cases f with
    | nil => rw [if_neg (by simp [lkV])]; rfl
    | cons i f =>
      have hi := hbf i (List.mem_cons_self ..)
      have h1 := (cell_in hk hi).1
      have el : lkV (adr c q) (wdt k) (i :: f) = adr c q + ((i * wdt k : Nat) : Int) := rfl
      rw [el, if_pos (by unfold adr; omega)]
      have ea : adr c q + ((i * wdt k : Nat) : Int) - adr c q = ((i * wdt k : Nat) : Int) := by omega
      have et : Int.tdiv ((i * wdt k : Nat) : Int) (wdt k : Int) = (i : Int) := by
        rw [Int.tdiv_eq_ediv_of_nonneg (by omega), ← Int.natCast_ediv, Nat.mul_div_cancel _ (wdt_pos k)]
      rw [ea, wU (z := ((i * wdt k : Nat) : Int)) (by unfold U64; omega), et, wU (by unfold U64; omega), wI (by unfold bd63; omega)]
      rfl
  have hp0 : pbit (x.m.pg q) j ≠ true := by rw [PI.bit j (by omega)]; simp
  have em1 : (ownU x.m q j true).pg = putP x.m.pg q (pown (x.m.pg q) j true) := ownU_pg hqn h4 PI.k2 hj hp0
  have q0 : pown (x.m.pg q) j true 0 = 4 := by unfold pown; rw [if_neg (by omega), if_neg (by omega)]; exact h4
  have q2 : pown (x.m.pg q) j true 2 = k := by unfold pown; rw [if_neg (by omega), if_neg (by omega)]; exact PI.k2
  have em2 : (firstU (ownU x.m q j true) q (hdE f (-1))).pg = putP x.m.pg q (firstP (pown (x.m.pg q) j true) (hdE f (-1))) := by
    rw [firstU_pg (k := k) (by simpa using hqn) (by rw [em1, putP_same]; exact q0) (by rw [em1, putP_same]; exact q2) (hdE_lt hbf), em1, putP_same]
    funext r
    by_cases e : r = q
    · subst e; rw [putP_same, putP_same]
    · rw [putP_ne _ _ e, putP_ne _ _ e, putP_ne _ _ e]
  have eT : takeC c x hp q k = (if hdE f (-1) < 0 then (x.wm (unhangM (firstU (ownU x.m q j true) q (hdE f (-1))) q), unhangP (firstU (ownU x.m q j true) q (hdE f (-1))) hp q k, adr c q + ((j * wdt k : Nat) : Int)) else (x.wm (firstU (ownU x.m q j true) q (hdE f (-1))), hp, adr c q + ((j * wdt k : Nat) : Int))) := by
    unfold takeC
    simp only []
    rw [atW_adr W hqn, pgA_nat hqn, e6, cellW_eq W hqn hk hj]
    unfold rdU
    rw [if_pos (th_cell W hqn hk hj), e5]
  have PI2 := PI.take T hk hj nd (by omega)
  have cls : fset cl q k = cl := fset_self hck
  have W1 := ki_first (x := x.wm (ownU x.m q j true)) (i := q) (p := hdE f (-1)) (ki_own (i := q) (p := j) (l := true) W)
  have f45 : firstP (pown (x.m.pg q) j true) (hdE f (-1)) 4 = x.m.pg q 4 ∧ firstP (pown (x.m.pg q) j true) (hdE f (-1)) 5 = x.m.pg q 5 := by
    unfold firstP pown
    constructor <;> rw [if_neg (by omega), if_neg (by omega), if_neg (by omega)]
  have hch0 : CS (firstU (ownU x.m q j true) q (hdE f (-1))).pg (q :: l') (-1) (-1) := by
    rw [← hpl, em2]
    refine CS_congr (fun r hr => ?_) (I.ch k hk)
    by_cases e : r = q
    · subst e; rw [putP_same]; exact f45
    · rw [putP_ne _ _ e]; exact ⟨rfl, rfl⟩
  have ndl := (I.pn k hk).1
  rw [hpl] at ndl
  generalize hM1 : firstU (ownU x.m q j true) q (hdE f (-1)) = M1 at eT em2 W1 hch0
  have o1 : M1.o = x.m.o := by rw [← hM1]; simp
  have n1 : M1.n = x.m.n := by rw [← hM1]; simp
  have b1 : M1.bt = x.m.bt := by rw [← hM1]; simp
  cases f with
  | cons i f =>
    rw [if_neg (show ¬ hdE (i :: f) (-1) < 0 by show ¬ (i : Int) < 0; omega)] at eT
    rw [eT, if_neg (by simp)]
    refine ⟨rfl, ?_, rfl, n1, o1⟩
    have := I.step (S' := S) (f' := i :: f) (l' := q :: l') (hp' := hp) hk (I.w.rep.ps q hS).1 (.inl hS) (fun _ => hck) (m' := M1) (st' := x.st) W1 o1 n1 b1 rfl (fun _ _ => Iff.rfl) (fun r hr _ => by rw [em2, putP_ne _ _ hr]) (fun r hr _ => ⟨0, 0, .inr (by rw [em2, putP_ne _ _ hr])⟩)
      (fun _ => ⟨by rw [em2, putP_same]; exact PI2, ndf.2, hbf, fun e => (by cases e), LK.2⟩) (fun h => absurd hS h)
      ⟨ndl, fun r => by
        rw [hpl]
        by_cases e : r = q
        · subst e; simp [hS]
        · simp [e]⟩ hch0 (fset_self (by rw [I.hd k hk, hpl])).symm (fun _ _ => rfl)
    rw [cls] at this
    exact this
  | nil =>
    rw [if_pos (show hdE [] (-1) < 0 by decide)] at eT
    rw [eT, if_pos rfl]
    have hh : hp k = hdE ([] ++ q :: l') (-1) := by rw [I.hd k hk, hpl]; rfl
    obtain ⟨u1, u2, u3, u4, u5⟩ := unhang_sim (m := M1) (pt := hp) (p := q) (k := k) (l1 := []) (l2 := l') (fun r hr => by
      have hr : r ∈ pl k := by rw [hpl]; exact hr
      have h := I.plS hk hr
      refine ⟨by rw [n1]; exact h.1, ?_⟩
      rw [em2]
      by_cases e : r = q
      · subst e; rw [putP_same]; exact PI2.k0
      · rw [putP_ne _ _ e]; exact h.2.1) ndl hh hch0
    have oo : (unhangM M1 q).o = x.m.o := by unfold unhangM unB unA; simp only [chainU_o]; split <;> (try simp only [chainU_o]) <;> split <;> simp [o1]
    have on : (unhangM M1 q).n = x.m.n := by unfold unhangM unB unA; simp only [chainU_n]; split <;> (try simp only [chainU_n]) <;> split <;> simp [n1]
    have ob : (unhangM M1 q).bt = x.m.bt := by unfold unhangM unB unA; simp only [chainU_bt]; split <;> (try simp only [chainU_bt]) <;> split <;> simp [b1]
    refine ⟨rfl, ?_, rfl, on, oo⟩
    have PI3 : PgI ((unhangM M1 q).pg q) k [] := u4.pgI (by rw [em2, putP_same]; exact PI2)
    have := I.step (S' := S) (f' := []) (l' := l') (hp' := unhangP M1 hp q k) hk (I.w.rep.ps q hS).1 (.inl hS) (fun _ => hck) (m' := unhangM M1 q) (st' := x.st) (ki_unhang (x := x.wm M1) W1) oo on ob rfl (fun _ _ => Iff.rfl)
      (fun r hr hr2 => by rw [u4.o r (by rw [hpl] at hr2; exact hr2), em2, putP_ne _ _ hr])
      (fun r hr _ => by
        obtain ⟨a, b, e | e⟩ := u4.i r
        · exact ⟨a, b, .inl (by rw [e, em2, putP_ne _ _ hr])⟩
        · exact ⟨a, b, .inr (by rw [e, em2, putP_ne _ _ hr])⟩)
      (fun _ => ⟨PI3, .nil, fun _ h => (by cases h), fun _ => ⟨u2, u3⟩, trivial⟩) (fun h => absurd hS h)
      ⟨(List.nodup_cons.1 ndl).2, fun r => by
        rw [hpl]
        by_cases e : r = q
        · subst e; simp [(List.nodup_cons.1 ndl).1]
        · simp [e]⟩ u1 u5 (fun _ _ => rfl)
    rw [cls] at this
    exact this
end
end Go.Proofs.YteemmpkhdllapaaDoor
