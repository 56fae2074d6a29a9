/- A range over a function, over heaps: its round, the statement, and a function that holds one. No condition. -/
import Derived.Test.YtfijahblggnbbaaV7
import Derived.RangeFuncRecord
set_option linter.unusedSimpArgs false
set_option linter.unusedVariables false
namespace Go.V

/-- Block l of a heap becomes o. -/
def setO (h : Heap) (l : Nat) (o : Obj) : Heap := h.setIfInBounds l o

@[simp] theorem setO_size (h : Heap) (l : Nat) (o : Obj) : (setO h l o).size = h.size := by simp [setO]
theorem setO_same {h : Heap} {l : Nat} {o : Obj} (hl : l < h.size) : (setO h l o)[l]? = some o := by simp [setO, hl]
theorem setO_other {h : Heap} {l k : Nat} {o : Obj} (hk : k ≠ l) : (setO h l o)[k]? = h[k]? := by simp [setO, Array.getElem?_setIfInBounds_ne (Ne.symm hk)]
theorem on_putObj (w : World) (h : Heap) (n l : Nat) (o : Obj) : (on w h n).putObj l o = on w (setO h l o) n := rfl

/-- What a round's end asks: the record was busy; it is ready again, or done with a jump. -/
def rEnd (l : Nat) (rec : LoopState → Option Code → Obj) (R : Ending → Heap → Prop) : Exit → Heap → Prop
  | .normal, h => h[l]? = some (rec .busy none) ∧ R (.returned (.bool true)) (setO h l (rec .ready none))
  | .ret, h => h[l]? = some (rec .busy none) ∧ R (.returned (.bool false)) (setO h l (rec .done (some .ret)))
  | .exit id, h => h[l]? = some (rec .busy none) ∧ R (.returned (.bool false)) (setO h l (rec .done (some (.exit id))))
  | .goto t, h => h[l]? = some (rec .busy none) ∧ R (.returned (.bool false)) (setO h l (rec .done (some (.goto t))))
  | _, _ => False

/-- The record of a loop. -/
def recO (fn : FuncId) (tm : Array Value) (ps : Array Tmp) (as bd : Code) (D : Nat) (st : LoopState) (pe : Option Code) : Obj :=
  .loop { state := st, pending := pe, fn := fn, tmps := tm, params := ps, assign := as, body := bd, defers := D }

section
variable {P : Program} {w₀ : World}

/-- **A round, out of its body's walk.** -/
theorem roundE_of_WA {fn : FuncId} {tm : Array Value} {ps : Array Tmp} {as bd : Code} {D l : Nat} {args : Array Value} {h : Heap} {R : Ending → Heap → Prop}
    (hl : h[l]? = some (recO fn tm ps as bd D .ready none)) (hs : args.size = ps.size)
    (H : WA (some l) P w₀ as (thenH (fun a₁ h₁ => h₁[l]? = some (recO fn tm ps as bd D .ready none) ∧
        WA (some l) P w₀ bd (fun e _ h₂ => rEnd l (recO fn tm ps as bd D) R e h₂) a₁ (setO h₁ l (recO fn tm ps as bd D .busy none))) (fun _ _ _ => False))
      { tmps := (ps.zip args).foldl (fun t (p, v) => t.setIfInBounds p v) tm, defers := [] } h) : RoundE P w₀ l args h R := by
  intro n
  refine ⟨fn, _, as, bd, run_yield (w := on w₀ h n) hl hs, ?_⟩
  refine roundIn_of_wpIn (F := Fr none) trivial ?_
  refine wpIn_mono (H n) ?_
  rintro e a₁ w₁ ⟨h₁, n₁, rfl, hq⟩
  cases e with
  | normal =>
    obtain ⟨hl1, hW⟩ := hq
    refine ⟨_, run_beginRound (w := on w₀ h₁ n₁) hl1 rfl, ?_⟩
    refine wpIn_mono (hW n₁) ?_
    rintro e a₂ w₂ ⟨h₂, n₂, rfl, hq⟩
    cases e with
    | normal => exact ⟨_, _, run_endRound (w := on w₀ h₂ n₂) none hq.1, _, n₂, rfl, hq.2⟩
    | ret => exact ⟨_, _, run_endRound (w := on w₀ h₂ n₂) (some .ret) hq.1, _, n₂, rfl, hq.2⟩
    | exit id => exact ⟨_, _, run_endRound (w := on w₀ h₂ n₂) (some (.exit id)) hq.1, _, n₂, rfl, hq.2⟩
    | goto t => exact ⟨_, _, run_endRound (w := on w₀ h₂ n₂) (some (.goto t)) hq.1, _, n₂, rfl, hq.2⟩
    | panic c => exact hq.elim
    | outgrown => exact hq.elim
  | _ => exact hq.elim

/-- What the end of the function that was ranged over asks. -/
def rPost (l : Nat) (rec : LoopState → Option Code → Obj) (K : Option Code → Heap → Prop) : Ending → Heap → Prop
  | .returned _, h => ∃ st pe, h[l]? = some (rec st pe) ∧ st ≠ .busy ∧ K pe (setO h l (rec .exhausted pe))
  | _, _ => False

/-- **The statement.** -/
theorem WA_range {g : Operand} {ps : Array Tmp} {as bd : Code} {Q : Exit → Act → Heap → Prop} {a : Act} {h : Heap} {gf : FuncId} {fs lb : Array Value}
    (hg : a.eval g = .func (.func gf) fs lb) (hcal : callable P gf = true)
    (H : ∀ fn, CallsE P w₀ gf (fs.toList ++ [Value.func (.yield (h.size + 1)) #[] #[]] ++ lb.toList).toArray ((h.push (.deferred (some []))).push (recO fn a.tmps ps as bd h.size .ready none))
      (rPost (h.size + 1) (recO fn a.tmps ps as bd h.size) fun pe h' => match pe with
        | none => Q .normal { a with defers := { target := .collected h.size, args := #[] } :: a.defers } h'
        | some c => WA none P w₀ c Q { a with defers := { target := .collected h.size, args := #[] } :: a.defers } h')) :
    WA none P w₀ (.rangeFunc g ps as bd) Q a h := by
  intro n
  refine wpIn_rangeFunc fun fn _ => ?_
  refine ⟨h.size + 1, [{ target := .collected h.size, args := #[] }], on w₀ ((h.push (.deferred (some []))).push (recO fn a.tmps ps as bd h.size .ready none)) n,
    { target := .fn (.func gf) lb, args := fs ++ #[Value.func (.yield (h.size + 1)) #[] #[]] }, on w₀ ((h.push (.deferred (some []))).push (recO fn a.tmps ps as bd h.size .ready none)) n, gf,
    (fs.toList ++ [Value.func (.yield (h.size + 1)) #[] #[]] ++ lb.toList).toArray, on w₀ ((h.push (.deferred (some []))).push (recO fn a.tmps ps as bd h.size .ready none)) n,
    run_enterLoop_outer (w := on w₀ h n) _ _ _ _ _, ?_, fun _ _ => trivial, ?_, fun hh => by simp [Fr] at hh, ?_⟩
  · have e : Array.map a.eval #[.const (.func (.yield (h.size + 1)) #[] #[])] = #[.func (.yield (h.size + 1)) #[] #[]] := by simp [Act.eval]
    simp only [resolve, hg, Deferred.ofValue, Sem.run_pure, e]
  · simp only [invoke]
    rw [callable_run P hcal]
    congr 2
    apply Array.toList_inj.1
    simp
  · refine callsIn_Fr ((H fn n).mono ?_)
    rintro e w' ⟨h', n', rfl, hq⟩
    cases e with
    | returned v =>
      obtain ⟨st, pe, h1, h2, h3⟩ := hq
      refine ⟨pe, _, run_endLoop (w := on w₀ h' n') h1 h2, ?_⟩
      cases pe with
      | none => exact ⟨_, n', rfl, h3⟩
      | some c => exact h3 n'
    | panicked c => exact hq.elim
    | outgrown => exact hq.elim
end

/-! ### Code that holds such a statement -/

inductive AX where
  | pl (a : Ann)
  | seq (a b : AX)
  | join (live : Live) (a : Ann) (b : AX)
  | cond (a b : AX)
  | block (a : AX)
  | rng (ps : Live) (exits : List Nat) (as bd : Ann)

def noLabX : AX → Bool
  | .pl a => noLab a
  | .seq a b | .cond a b => noLabX a && noLabX b
  | .join _ a b => noLab a && noLabX b
  | .block a => noLabX a
  | .rng _ _ a b => noLab a && noLab b

/-- Yield's arguments in the loop's parameters. -/
def putPs : List Tmp → List Value → Env → Env
  | p :: ps, v :: vs, E => putPs ps vs ((p, v) :: E)
  | _, _, E => E

def ltAll (N : Nat) : List Tmp → Bool
  | [] => true
  | p :: ps => Nat.blt p N && ltAll N ps

abbrev QX := Exit → List Nat → Env → Heap → Prop

def thenX (next : List Nat → Env → Heap → Prop) (Q : QX) : QX
  | .normal, ds, E, h => next ds E h
  | e, ds, E, h => Q e ds E h

def inBlockX (id : Nat) (Q : QX) : QX
  | .exit id', ds, E, h => bif Nat.beq id' id then Q .normal ds E h else Q (.exit id') ds E h
  | e, ds, E, h => Q e ds E h

/-- Behind the statement: on, or where a round's jump leads. -/
def exitR (xs : List (Nat × (Heap → Prop))) (id : Nat) (h : Heap) : Prop :=
  match xs with
  | [] => False
  | (i, K) :: l => (id = i ∧ K h) ∨ exitR l id h

def afterR (K R : Heap → Prop) (xs : List (Nat × (Heap → Prop))) : Option Code → Heap → Prop
  | none, h => K h
  | some .ret, h => R h
  | some (.exit id), h => exitR xs id h
  | _, _ => False

/-- A call of a function's value, no yield. -/
def CallG (P : Program) (w₀ : World) (v : Value) (args : List Value) (h : Heap) (R : Ending → Heap → Prop) : Prop :=
  match v with
  | .func (.func g) fs cs => bif callable P g then CallsE P w₀ g (fs.toList ++ args ++ cs.toList).toArray h R else False
  | _ => False

def fsts : Live → List Nat
  | [] => []
  | (s, _) :: l => s :: fsts l

section
variable (P : Program) (w₀ : World) (N : Nat)

def vcX : Code → AX → List Nat → Env → Heap → QX → Prop
  | c, .pl a, ds, E, h, Q => vc P w₀ N c a E h (fun e E h => Q e ds E h)
  | .seq x y, .seq a b, ds, E, h, Q => vcX x a ds E h (thenX (fun ds E h => vcX y b ds E h Q) Q)
  | .seq x y, .join live a b, ds, E, h, Q => ∀ J : List Value → Heap → Prop, (AllT live fun vs E' => ∀ h' : Heap, vcX y b ds E' h' Q → J vs h') →
      vc P w₀ N x a E h (thenE (fun E' h' => match getL live E' with | some vs => J vs h' | none => False) (fun e E h => Q e ds E h))
  | .cond c x y, .cond a b, ds, E, h, Q => match val E c with
    | some (.bool t) => (t = true → vcX x a ds E h Q) ∧ (t = false → vcX y b ds E h Q)
    | _ => False
  | .block id x, .block a, ds, E, h, Q => vcX x a ds E h (inBlockX id Q)
  | .rangeFunc g ps as bd, .rng live exits aa ab, ds, E, h, Q => bif ltAll N ps.toList && eqNs (fsts live) ps.toList then
      match val E g with
      | some v =>
          ∀ rec : LoopState → Option Code → Obj, (∀ st pe, ∃ x, rec st pe = .loop x) →
            (AllT live fun x _ => ∀ (h' : Heap) (R : Ending → Heap → Prop), x.length = ps.toList.length → h'[h.size + 1]? = some (rec .ready none) →
              vc P w₀ N as aa (putPs ps.toList x E) h' (thenE (fun E1 h1 => h1[h.size + 1]? = some (rec .ready none) ∧ vc P w₀ N bd ab E1 (setO h1 (h.size + 1) (rec .busy none)) (fun e _ h2 => rEnd (h.size + 1) rec R e h2)) (fun _ _ _ => False)) →
              CallF P w₀ (.func (.yield (h.size + 1)) #[] #[]) x h' R) →
            CallG P w₀ v [Value.func (.yield (h.size + 1)) #[] #[]] ((h.push (.deferred (some []))).push (rec .ready none))
              (rPost (h.size + 1) rec (afterR (fun h' => Q .normal (h.size :: ds) E h') (fun h' => Q .ret (h.size :: ds) E h') (exits.map fun i => (i, fun h' => Q (.exit i) (h.size :: ds) E h'))))
      | none => False
    else False
  | _, _, _, _, _, _ => False
end

def mark (k : Nat) : Deferred := { target := .collected k, args := #[] }

def liftX (N : Nat) (Q : QX) : Exit → Act → Heap → Prop
  | e, a, h => ∃ ds E, Holds N (ds.map mark) E a ∧ Q e ds E h

theorem putPs_holds {N : Nat} {D : List Deferred} : ∀ {ps : List Tmp} {vs : List Value} {E : Env} {tm : Array Value} {df : List Deferred}, ltAll N ps = true → Holds N D E { tmps := tm, defers := df } → vs.length = ps.length →
    Holds N D (putPs ps vs E) { tmps := (ps.zip vs).foldl (fun t x => t.setIfInBounds x.1 x.2) tm, defers := df }
  | [], [], E, tm, df, _, hE, _ => hE
  | p :: ps, v :: vs, E, tm, df, hl, hE, hs => by
    simp only [ltAll, Bool.and_eq_true] at hl
    have hp : p < N := Nat.le_of_ble_eq_true hl.1
    have h1 : Holds N D ((p, v) :: E) { tmps := tm.setIfInBounds p v, defers := df } := hE.put (a := { tmps := tm, defers := df }) hp v
    exact putPs_holds (ps := ps) (vs := vs) (E := (p, v) :: E) hl.2 h1 (by simpa using hs)
  | [], _ :: _, _, _, _, _, _, hs => by simp at hs
  | _ :: _, [], _, _, _, _, _, hs => by simp at hs

section
variable {P : Program} {w₀ : World} {N : Nat}

theorem exitR_out {Q : Nat → Heap → Prop} : ∀ {l : List Nat} {id : Nat} {h : Heap}, exitR (l.map fun i => (i, Q i)) id h → Q id h
  | [], _, _, H => H.elim
  | i :: l, id, h, H => by
    rcases H with ⟨rfl, H⟩ | H
    · exact H
    · exact exitR_out (l := l) H

theorem rounds {h : Heap} {a : Act} {E : Env} {D : List Deferred} {ps : Array Tmp} {as bd : Code} {aa ab : Ann} (live : Live) (fn : FuncId) (D0 : Nat) (hlt : ltAll N ps.toList = true) (hE : Holds N D E a) (hn1 : noLab aa = true) (hn2 : noLab ab = true) (hm : P.follows .mixedOrders = true) :
    AllT live fun x _ => ∀ (h' : Heap) (R : Ending → Heap → Prop), x.length = ps.toList.length → h'[h.size + 1]? = some (recO fn a.tmps ps as bd D0 .ready none) →
      vc P w₀ N as aa (putPs ps.toList x E) h' (thenE (fun E1 h1 => h1[h.size + 1]? = some (recO fn a.tmps ps as bd D0 .ready none) ∧ vc P w₀ N bd ab E1 (setO h1 (h.size + 1) (recO fn a.tmps ps as bd D0 .busy none)) (fun e _ h2 => rEnd (h.size + 1) (recO fn a.tmps ps as bd D0) R e h2)) (fun _ _ _ => False)) →
      CallF P w₀ (.func (.yield (h.size + 1)) #[] #[]) x h' R := by
  refine AllT_intro fun x h' R hx hl Hb => ?_
  show RoundE P w₀ _ (#[] ++ x.toArray) h' R
  rw [Array.empty_append]
  refine roundE_of_WA hl (by simpa using hx) ?_
  have hE0 : Holds N [] (putPs ps.toList x E) { tmps := (ps.zip x.toArray).foldl (fun t (p, v) => t.setIfInBounds p v) a.tmps, defers := [] } := by
    have : (ps.zip x.toArray).foldl (fun t (p, v) => t.setIfInBounds p v) a.tmps = (ps.toList.zip x).foldl (fun t x => t.setIfInBounds x.1 x.2) a.tmps := by
      rw [← Array.foldl_toList]; simp [Array.toList_zip]
    rw [this]
    exact putPs_holds hlt (tm := a.tmps) (df := []) ⟨hE.1, rfl, hE.2.2⟩ hx
  refine WA_mono ?_ (vc_sound hm as aa _ h' _ _ hn1 Hb hE0)
  rintro e a1 h1 ⟨E1, g1, g2⟩
  cases e with
  | normal =>
    refine ⟨g2.1, WA_mono ?_ (vc_sound hm bd ab E1 _ _ a1 hn2 g2.2 g1)⟩
    rintro e a2 h2 ⟨E2, g3, g4⟩
    exact g4
  | _ => exact g2.elim

theorem vcX_sound (hm : P.follows .mixedOrders = true) : ∀ (x : AX) (c : Code) (ds : List Nat) (E : Env) (h : Heap) (Q : QX) (a : Act), noLabX x = true → vcX P w₀ N c x ds E h Q → Holds N (ds.map mark) E a → WA none P w₀ c (liftX N Q) a h := by
  intro x
  induction x with
  | pl an =>
    intro c ds E h Q a hn H hE
    simp only [vcX] at H
    refine WA_mono ?_ (vc_sound hm c an E h _ a hn H hE)
    rintro e a' h' ⟨E', g1, g2⟩
    exact ⟨ds, E', g1, g2⟩
  | seq p q ihp ihq =>
    intro c ds E h Q a hn H hE
    simp only [noLabX, Bool.and_eq_true] at hn
    cases c <;> try (simp only [vcX] at H; done)
    rename_i x y
    simp only [vcX] at H
    refine WA_seq (WA_mono ?_ (ihp x ds E h _ a hn.1 H hE))
    rintro e a' h' ⟨ds', E', g1, g2⟩
    cases e with
    | normal => exact ihq y ds' E' h' Q a' hn.2 g2 g1
    | _ => exact ⟨ds', E', g1, g2⟩
  | join live p q ihq =>
    intro c ds E h Q a hn H hE
    simp only [noLabX, Bool.and_eq_true] at hn
    cases c <;> try (simp only [vcX] at H; done)
    rename_i x y
    simp only [vcX] at H
    have H1 := H (fun vs h' => ∀ a', Holds N (ds.map mark) (envOf live vs) a' → WA none P w₀ y (liftX N Q) a' h') (AllT_intro fun vs h' hv a' ha' => ihq y ds _ h' Q a' hn.2 hv ha')
    refine WA_seq (WA_mono ?_ (vc_sound hm x p E h _ a hn.1 H1 hE))
    rintro e a' h' ⟨E', g1, g2⟩
    cases e with
    | normal =>
      simp only [thenE] at g2
      split at g2
      · rename_i vs hvs; exact g2 a' (g1.getL hvs)
      · exact g2.elim
    | _ => exact ⟨ds, E', g1, g2⟩
  | cond p q ihp ihq =>
    intro c ds E h Q a hn H hE
    simp only [noLabX, Bool.and_eq_true] at hn
    cases c <;> try (simp only [vcX] at H; done)
    rename_i c x y
    simp only [vcX] at H
    split at H
    · rename_i t hv
      refine WA_cond (hE.val hv) ?_
      cases t
      · exact ihq y ds E h Q a hn.2 (H.2 rfl) hE
      · exact ihp x ds E h Q a hn.1 (H.1 rfl) hE
    · exact H.elim
  | block p ih =>
    intro c ds E h Q a hn H hE
    cases c <;> try (simp only [vcX] at H; done)
    rename_i id x
    simp only [vcX] at H
    refine WA_block (WA_mono ?_ (ih x ds E h _ a hn H hE))
    rintro e a' h' ⟨ds', E', g1, g2⟩
    cases e with
    | exit id' =>
      simp only [inBlockX] at g2
      simp only [inBlockH]
      cases hb : Nat.beq id' id <;> rw [hb] at g2
      · have : id' ≠ id := fun e => by subst e; simp at hb
        rw [if_neg this]; exact ⟨ds', E', g1, g2⟩
      · rw [if_pos (Nat.eq_of_beq_eq_true hb)]; exact ⟨ds', E', g1, g2⟩
    | _ => exact ⟨ds', E', g1, g2⟩
  | rng live exits aa ab =>
    intro c ds E h Q a hn H hE
    simp only [noLabX, Bool.and_eq_true] at hn
    cases c <;> try (simp only [vcX] at H; done)
    rename_i g ps as bd
    simp only [vcX] at H
    cases hlt : (ltAll N ps.toList && eqNs (fsts live) ps.toList) <;> rw [hlt] at H
    · exact H.elim
    simp only [cond_true] at H
    simp only [Bool.and_eq_true] at hlt
    split at H
    case h_2 => exact H.elim
    rename_i v hv
    have hsh : ∃ gf fs lb, v = .func (.func gf) fs lb ∧ callable P gf = true := by
      have H1 := H (recO 0 a.tmps ps as bd h.size) (fun st pe => ⟨_, rfl⟩)
      by_cases hx : ∃ gf fs lb, v = .func (.func gf) fs lb ∧ callable P gf = true
      · exact hx
      · refine absurd (H (recO 0 a.tmps ps as bd h.size) (fun st pe => ⟨_, rfl⟩) ?_) ?_
        · exact rounds _ _ _ hlt.1 hE hn.1 hn.2 hm
        · unfold CallG
          split
          · rename_i g fs cs
            cases hc : callable P g
            · exact id
            · exact absurd ⟨g, fs, cs, rfl, hc⟩ hx
          · exact id
    obtain ⟨gf, fs, lb, rfl, hc⟩ := hsh
    refine WA_range (hE.val hv) hc fun fn => ?_
    have H1 := H (recO fn a.tmps ps as bd h.size) (fun st pe => ⟨_, rfl⟩) (rounds _ _ _ hlt.1 hE hn.1 hn.2 hm)
    simp only [CallG, hc, cond_true] at H1
    refine CallsE.mono H1 ?_
    rintro e h' hq
    cases e with
    | returned v =>
      obtain ⟨st, pe, q1, q2, q3⟩ := hq
      refine ⟨st, pe, q1, q2, ?_⟩
      have hE' : Holds N ((h.size :: ds).map mark) E { a with defers := { target := .collected h.size, args := #[] } :: a.defers } := by
        refine ⟨hE.1, ?_, hE.2.2⟩
        show _ :: a.defers = _
        rw [hE.2.1]
        rfl
      cases pe with
      | none => exact ⟨_, E, hE', q3⟩
      | some c =>
        cases c with
        | ret => exact WA_ret ⟨_, E, hE', q3⟩
        | exit id =>
          have q3 : exitR (exits.map fun i => (i, fun h' => Q (.exit i) (h.size :: ds) E h')) id _ := q3
          have q4 := exitR_out q3
          exact WA_exit ⟨_, E, hE', q4⟩
        | _ => exact q3.elim
    | _ => exact hq.elim

/-- The marks are taken. -/
def takeX : List Nat → Heap → (Heap → Prop) → Prop
  | [], h, K => K h
  | k :: ds, h, K => h[k]? = some (.deferred (some [])) ∧ takeX ds (setO h k (.deferred none)) K

/-- A function's end. -/
def endX (P : Program) (rs : List ResultVar) (K : Value → Heap → Prop) : QX
  | .normal, ds, E, h => takeX ds h fun h' => resF P rs E h' fun vs => K (oneV vs) h'
  | .ret, ds, E, h => takeX ds h fun h' => resF P rs E h' fun vs => K (oneV vs) h'
  | _, _, _, _ => False

/-- **A function that holds ranges over functions.** -/
theorem callV_of_vcX (hm : P.follows .mixedOrders = true) {f : FuncId} {fn : Func} {c : Code} {ax : AX} {args : List Value} {h : Heap} {K : Value → Heap → Prop}
    (hf : P.funcs[f]? = some fn) (hb : fn.body = some c) (hN : fn.ntmps = N) (hl : Nat.ble args.length N = true) (hn : noLabX ax = true)
    (H : vcX P w₀ N c ax [] (argE 0 args) h (endX P fn.results.toList K)) : CallV P w₀ f args h K := by
  intro n
  have hl' := Nat.le_of_ble_eq_true hl
  have hE : Holds N (([] : List Nat).map mark) (argE 0 args) { tmps := args.toArray ++ Array.replicate (fn.ntmps - args.toArray.size) undef, defers := [] } := by
    refine ⟨by simp [hN]; omega, rfl, fun t v hv => ?_⟩
    obtain ⟨_, h2⟩ := get_argE hv
    rw [Nat.sub_zero] at h2
    have ht : t < args.length := (List.getElem?_eq_some_iff.1 h2).1
    rw [Array.getElem?_append_left (by simpa using ht)]
    simpa using h2
  have hW := vcX_sound hm ax c [] _ h _ _ hn H hE
  have leave : ∀ (ds : List Nat) (tm : Array Value) (E : Env) (h' : Heap) (n' : Nat), Holds N [] E { tmps := tm, defers := [] } → (takeX ds h' fun h'' => resF P fn.results.toList E h'' fun vs => K (oneV vs) h'') →
      LeavesInM (Fr none) 0 P fn tm (fun e w' => ∃ h' n', w' = on w₀ h' n' ∧ callPost K (fun _ _ => False) e h') (ds.map mark) .returning (on w₀ h' n') := by
    intro ds
    induction ds with
    | nil =>
      intro tm E h' n' hE' hq
      obtain ⟨vs, hK, hr⟩ := results_run (w₀ := w₀) (fn := fn) hq hE' n'
      exact ⟨_, hr, h', n', rfl, hK⟩
    | cons k ds ih =>
      intro tm E h' n' hE' hq
      exact ⟨by simp, .inl ⟨k, _, rfl, run_takeDeferred (w := on w₀ h' n') hq.1, ih tm E _ n' hE' hq.2⟩⟩
  have key : CallsIn (Fr none) 0 P f args.toArray (on w₀ h n) (fun e w' => ∃ h' n', w' = on w₀ h' n' ∧ callPost K (fun _ _ => False) e h') := by
    refine callsIn_of_wp_marks hf hb trivial ?_
    refine wpIn_mono (hW n) ?_
    rintro e a' w' ⟨h', n', rfl, ds, E', hE', hq⟩
    cases e with
    | normal => show LeavesInM _ _ _ _ _ _ a'.defers _ _; rw [hE'.2.1]; exact leave ds a'.tmps E' h' n' ⟨hE'.1, rfl, hE'.2.2⟩ hq
    | ret => show LeavesInM _ _ _ _ _ _ a'.defers _ _; rw [hE'.2.1]; exact leave ds a'.tmps E' h' n' ⟨hE'.1, rfl, hE'.2.2⟩ hq
    | panic ch => exact hq.elim
    | exit id => exact hq.elim
    | goto l => exact hq.elim
    | outgrown => exact hq.elim
  exact callsIn_wide.1 (show CallsIn Fence.wide 0 P f args.toArray (on w₀ h n) _ from key)
end
end Go.V
