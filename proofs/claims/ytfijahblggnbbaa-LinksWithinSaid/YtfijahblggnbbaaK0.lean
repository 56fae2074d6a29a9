/- Ranges over functions, from the user's side: the record as a thing in the heap, a yield and what it does. No condition. -/
import Derived.Test.YtfijahblggnbbaaV8
import Derived.Test.YtfijahblggnbbaaH2
set_option linter.unusedSimpArgs false
set_option linter.unusedVariables false
namespace Go.V

def noC : Obj → Prop
  | .cells _ _ _ => False
  | _ => True

theorem noC_fz {o : Obj} (h : noC o) : fz o := by
  unfold noC at h
  split at h
  · exact h.elim
  · unfold fz; split <;> simp_all

/-- A block that is no cells. -/
def objR (l : Nat) (o : Obj) : Res := ⟨fun b => b = l, fun h => h[l]? = some o, fun {h h' S} H hu hs => by
    have hl : l < h.size := (Array.getElem?_eq_some_iff.1 H).1
    rw [hu.2.1 l hl (hs l rfl)]; exact H,
  fun {h} H b e => by rw [e]; exact (Array.getElem?_eq_some_iff.1 H).1⟩

theorem frozen_noC {h : Heap} {a : Addr} {o : Obj} (H : h[a.block]? = some o) (ho : noC o) : frozenAt h a = false := by
  unfold frozenAt
  rw [H]
  cases o <;> first | rfl | exact ho.elim

theorem setO_upd {h : Heap} {l : Nat} {o o' : Obj} (H : h[l]? = some o) (ho : noC o) (ho' : noC o') : Upd (fun b => b = l) h (setO h l o') := by
  have hl : l < h.size := (Array.getElem?_eq_some_iff.1 H).1
  refine ⟨by simp, fun b _ hb => setO_other hb, fun a => ?_⟩
  by_cases hx : a.block = l
  · rw [frozen_noC (o := o') (by rw [hx]; exact setO_same hl) ho', frozen_noC (o := o) (by rw [hx]; exact H) ho]
  · unfold frozenAt
    rw [setO_other hx]

theorem Stp.obj {h : Heap} {l : Nat} {o o' : Obj} (H : h[l]? = some o) (ho : noC o) (ho' : noC o') : Stp h (setO h l o') (objR l o) (objR l o') :=
  ⟨setO_upd H ho ho', setO_same (Array.getElem?_eq_some_iff.1 H).1, fun _ e => .inl e⟩

theorem New.obj (h : Heap) (o : Obj) (ho : noC o) : New h (h.push o) (objR h.size o) :=
  ⟨push_upd _ _ _ (noC_fz ho), by show (h.push o)[h.size]? = some o; simp, fun b e => Nat.le_of_eq (Eq.symm e)⟩

/-- A loop's record is no cells. -/
theorem rec_noC {rec : LoopState → Option Code → Obj} (hr : ∀ st pe, ∃ x, rec st pe = .loop x) (st : LoopState) (pe : Option Code) : noC (rec st pe) := by
  obtain ⟨x, e⟩ := hr st pe
  rw [e]; trivial

theorem def_noC (x : Option (List Deferred)) : noC (.deferred x) := trivial

/-- What a round finds, and what it leaves. -/
theorem round_out {h : Heap} {l : Nat} {o o1 : Obj} {M : Res} (H : (andR (objR l o) M).P h) (ho : noC o) (ho1 : noC o1) :
    h[l]? = some o ∧ M.P (setO h l o1) ∧ ∀ (h2 : Heap) (M2 : Res), Stp (setO h l o1) h2 M M2 →
      h2[l]? = some o1 ∧ ∀ o2, noC o2 → Stp h (setO h2 l o2) (andR (objR l o) M) (andR (objR l o2) M2) := by
  have hl : h[l]? = some o := H.1
  have S1 : Stp h (setO h l o1) (andR (objR l o) M) (andR (objR l o1) M) := (Stp.obj hl ho ho1).left H
  refine ⟨hl, S1.p.2.1, fun h2 M2 S => ?_⟩
  have S2 : Stp h h2 (andR (objR l o) M) (andR (objR l o1) M2) := S1.trans (S.right S1.p)
  exact ⟨S2.p.1, fun o2 ho2 => S2.trans ((Stp.obj S2.p.1 ho1 ho2).left S2.p)⟩

theorem andNo {R : Res} {h : Heap} (H : R.P h) : (andR R noR).P h := ⟨H, trivial, fun _ _ e => e⟩

/-- A yield of addresses (beside what stands outside): from state to state, and whether it goes on. ok: so many may still be given, the address in hand, the one given last; gd: it is given; fw: the next one in hand. -/
structure Yd {S : Type} (P : Program) (w₀ : World) (y : Value) (M : S → Res) (Ex : Res) (ok : Nat → Int → Int → S → Prop) (gd : S → Int → Int → Prop) (fw : S → Int → Int) (nx : S → Int → S → Prop) (go : S → Int → Bool) : Prop where
  call : ∀ (k : Nat) (p b : Int) (σ : S) (h : Heap), ok (k + 1) p b σ → gd σ p b → 0 ≤ p ∧ p < 18446744073709551616 → (andR (M σ) Ex).P h →
    CallF P w₀ y [.int .u64 p] h (callPost (fun v h' => v = .bool (go σ p) ∧ ∃ σ', nx σ p σ' ∧ Stp h h' (M σ) (M σ')) fun _ _ => False)
  cells : y.cells = #[y]
  stay : ∀ (k : Nat) (p b : Int) (σ σ' : S), ok (k + 1) p b σ → gd σ p b → 0 ≤ p ∧ p < 18446744073709551616 → go σ p = true → nx σ p σ' → ok k (fw σ p) p σ'

theorem CallV.toR {P : Program} {w₀ : World} {f : FuncId} {args : List Value} {h : Heap} {R : Ending → Heap → Prop} (H : CallV P w₀ f args h fun v h' => R (.returned v) h') : CallsE P w₀ f args.toArray h R :=
  CallsE.mono H fun e h q => by cases e <;> first | exact q | exact q.elim

theorem CallG_func {P : Program} {w₀ : World} {g : FuncId} {fs cs : Array Value} {args : List Value} {h : Heap} {R : Ending → Heap → Prop} (hc : callable P g = true)
    (H : CallsE P w₀ g (fs.toList ++ args ++ cs.toList).toArray h R) : CallG P w₀ (.func (.func g) fs cs) args h R := by
  simp only [CallG, hc, cond_true]; exact H

/-- One of a row beside another thing. -/
theorem Stp.allAnd {h h' : Heap} {n : Nat} {R : Nat → Res} {B B' R' : Res} (k : Nat) (hk : k < n) (S : Stp h h' (andR (R k) B) (andR R' B')) (H : (andR (allR n R) B).P h) :
    Stp h h' (andR (allR n R) B) (andR (allR n fun i => if i = k then R' else R i) B') := by
  obtain ⟨⟨h1, h2⟩, hB, h3⟩ := H
  have apart : ∀ i, i < n → i ≠ k → ∀ b, (R i).fp b → ¬ (andR (R k) B).fp b := by
    intro i hi hik b e e'
    rcases e' with e' | e'
    · exact h2 i hi k hk hik b e e'
    · exact h3 b ⟨i, hi, e⟩ e'
  have fresh : ∀ i, i < n → i ≠ k → ∀ b, (R i).fp b → ¬ (andR R' B').fp b := by
    intro i hi hik b e e'
    rcases S.g b e' with f | f
    · exact apart i hi hik b e f
    · have := (R i).lt (h1 i hi) b e; omega
  refine ⟨S.u.mono fun b e _ => ?_, ⟨⟨fun i hi => ?_, fun i hi j hj hij b e e' => ?_⟩, S.p.2.1, fun b e e' => ?_⟩, fun b e => ?_⟩
  · rcases e with e | e
    · exact .inl ⟨k, hk, e⟩
    · exact .inr e
  · by_cases hik : i = k
    · simp only [hik, if_true]; exact S.p.1
    · simp only [hik, if_false]; exact (R i).st (h1 i hi) S.u fun b e e' => apart i hi hik b e e'
  · by_cases hik : i = k
    · by_cases hjk : j = k
      · exact hij (hik.trans hjk.symm)
      · simp only [hik, hjk, if_true, if_false] at e e'
        exact fresh j hj hjk b e' (.inl e)
    · by_cases hjk : j = k
      · simp only [hik, hjk, if_true, if_false] at e e'
        exact fresh i hi hik b e (.inl e')
      · simp only [hik, hjk, if_false] at e e'
        exact h2 i hi j hj hij b e e'
  · obtain ⟨i, hi, e⟩ := e
    by_cases hik : i = k
    · simp only [hik, if_true] at e
      exact S.p.2.2 b e e'
    · simp only [hik, if_false] at e
      exact fresh i hi hik b e (.inr e')
  · have old : (andR (R k) B).fp b ∨ h.size ≤ b → (andR (allR n R) B).fp b ∨ h.size ≤ b := by
      rintro ((f | f) | f)
      · exact .inl (.inl ⟨k, hk, f⟩)
      · exact .inl (.inr f)
      · exact .inr f
    rcases e with ⟨i, hi, e⟩ | e
    · by_cases hik : i = k
      · simp only [hik, if_true] at e
        exact old (S.g b (.inl e))
      · simp only [hik, if_false] at e
        exact .inl (.inl ⟨i, hi, e⟩)
    · exact old (S.g b (.inr e))

/-- Entering a range: the two new blocks. -/
theorem range_in {h : Heap} {M : Res} {o : Obj} (H : M.P h) (ho : noC o) : (andR (objR (h.size + 1) o) M).P ((h.push (.deferred (some []))).push o) := by
  have N1 : New h (h.push (.deferred (some []))) (objR h.size (.deferred (some []))) := New.obj h _ trivial
  have N2 : New (h.push (.deferred (some []))) ((h.push (.deferred (some []))).push o) (objR (h.push (.deferred (some []))).size o) := New.obj _ _ ho
  have e : (h.push (.deferred (some []) : Obj)).size = h.size + 1 := by simp
  rw [e] at N2
  have u := N1.u.nx N2.u fun _ e _ => e
  exact ⟨N2.p, M.st H u fun _ _ => id, fun b e e' => by have := M.lt H b e'; have e : b = h.size + 1 := e; omega⟩

/-- Behind a range: what the rounds have left. -/
theorem range_out {h h' : Heap} {M M2 : Res} {o o2 : Obj} (H : M.P h) (ho : noC o) (ho2 : noC o2)
    (S : Stp ((h.push (.deferred (some []))).push o) h' (andR (objR (h.size + 1) o) M) (andR (objR (h.size + 1) o2) M2)) :
    h'[h.size + 1]? = some o2 ∧ ∀ o3, noC o3 → Stp h (setO h' (h.size + 1) o3) M (andR (objR h.size (.deferred (some []))) M2) := by
  refine ⟨S.p.1, fun o3 ho3 => ?_⟩
  have hs : ((h.push (.deferred (some []))).push o).size = h.size + 2 := by simp
  have u0 : Upd (fun _ => False) h ((h.push (.deferred (some []))).push o) := (push_upd _ h _ (noC_fz (o := .deferred (some [])) trivial)).nx (push_upd _ _ _ (noC_fz ho)) fun _ e _ => e
  have u1 := setO_upd (o' := o3) S.p.1 ho2 ho3
  have hD : ((h.push (.deferred (some []))).push o)[h.size]? = some (.deferred (some [])) := by
    rw [push_get _ _ _ (by simp)]; simp
  have old : ∀ b, M.fp b → b < h.size := fun b e => M.lt H b e
  have hD1 : h'[h.size]? = some (.deferred (some [])) := by
    rw [S.u.2.1 h.size (by omega) fun e => e.elim (fun e => by have e : h.size = h.size + 1 := e; omega) fun e => by have := old _ e; omega]
    exact hD
  have sep : ∀ b, M2.fp b → b < h.size ∨ h.size + 2 ≤ b := by
    intro b e
    rcases S.g b (.inr e) with (f | f) | f
    · exact absurd e fun e => S.p.2.2 b f e
    · exact .inl (old b f)
    · exact .inr (by omega)
  refine ⟨?_, ⟨?_, M2.st S.p.2.1 u1 fun b e e' => S.p.2.2 b e' e, fun b e e' => ?_⟩, fun b e => ?_⟩
  · refine Upd.nx (Upd.nx (u0.mono (S' := M.fp) fun _ e _ => e.elim) S.u fun b e hb => ?_) u1 fun b e hb => by have e : b = h.size + 1 := e; omega
    rcases e with e | e
    · have e : b = h.size + 1 := e; omega
    · exact e
  · show (setO h' (h.size + 1) o3)[h.size]? = _
    rw [setO_other (by omega)]; exact hD1
  · have e : b = h.size := e
    have := sep b e'; omega
  · rcases e with e | e
    · have e : b = h.size := e; exact .inr (by omega)
    · rcases S.g b (.inr e) with (f | f) | f
      · exact absurd e fun e => S.p.2.2 b f e
      · exact .inl f
      · exact .inr (by omega)

/-- The mark is taken. -/
theorem take_out {h h' : Heap} {M M2 : Res} {D : Nat} (S : Stp h h' M (andR (objR D (.deferred (some []))) M2)) :
    h'[D]? = some (.deferred (some [])) ∧ Stp h (setO h' D (.deferred none)) M M2 :=
  ⟨S.p.1, (S.trans ((Stp.obj (o := .deferred (some [])) (o' := .deferred none) S.p.1 trivial trivial).left S.p)).conv (fun P => P.2.1) fun b e => .inr e⟩

/-- A thing beside facts. -/
def factR (p : Prop) (R : Res) : Res := ⟨R.fp, fun h => p ∧ R.P h, fun H hu hs => ⟨H.1, R.st H.2 hu hs⟩, fun H => R.lt H.2⟩

end Go.V
