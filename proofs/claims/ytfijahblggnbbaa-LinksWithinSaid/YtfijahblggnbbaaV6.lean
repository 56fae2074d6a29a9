/- The condition of code and of a function, and that it is enough. No condition. -/
import Derived.Test.YtfijahblggnbbaaV5
import Derived.Test.YtfijahblggnbbaaS0
set_option linter.unusedVariables false
namespace Go.V

mutual
def AllK : Kd → (Value → Prop) → Prop
  | .int k, F => ∀ n : Int, F (.int k n)
  | .bool, F => ∀ b : Bool, F (.bool b)
  | .ptr, F => ∀ p : Option Addr, F (.pointer p)
  | .addr, F => ∀ a : Addr, F (.pointer (some a))
  | .slice, F => ∀ (p : Option Addr) (n c : Nat), F (.slice p n c)
  | .str, F => ∀ s : ByteArray, F (.string s)
  | .val, F => ∀ v : Value, F v
  | .agg l, F => AllKs l fun vs => F (.agg vs.toArray)
  | .tup l, F => AllKs l fun vs => F (.tuple vs.toArray)
def AllKs : List Kd → (List Value → Prop) → Prop
  | [], F => F []
  | k :: ks, F => AllK k fun v => AllKs ks fun vs => F (v :: vs)
end

mutual
theorem AllK_intro : ∀ {k : Kd} {F : Value → Prop}, (∀ v, F v) → AllK k F
  | .int _, _, h => fun _ => h _
  | .bool, _, h => fun _ => h _
  | .ptr, _, h => fun _ => h _
  | .addr, _, h => fun _ => h _
  | .slice, _, h => fun _ _ _ => h _
  | .str, _, h => fun _ => h _
  | .val, _, h => fun _ => h _
  | .agg _, _, h => AllKs_intro fun _ => h _
  | .tup _, _, h => AllKs_intro fun _ => h _
theorem AllKs_intro : ∀ {l : List Kd} {F : List Value → Prop}, (∀ v, F v) → AllKs l F
  | [], _, h => h _
  | _ :: _, _, h => AllK_intro fun _ => AllKs_intro fun _ => h _
end

abbrev Live := List (Nat × Kd)

def AllT : Live → (List Value → Env → Prop) → Prop
  | [], F => F [] []
  | (s, k) :: l, F => AllK k fun v => AllT l fun vs E => F (v :: vs) ((s, v) :: E)

def envOf : Live → List Value → Env
  | (s, _) :: l, v :: vs => (s, v) :: envOf l vs
  | _, _ => []

theorem AllT_intro : ∀ {l : Live} {F : List Value → Env → Prop}, (∀ vs, F vs (envOf l vs)) → AllT l F
  | [], _, h => h []
  | (_, _) :: _, _, h => AllK_intro fun v => AllT_intro fun vs => h (v :: vs)

def getL : Live → Env → Option (List Value)
  | [], _ => some []
  | (s, _) :: l, E => match get E s, getL l E with
    | some v, some vs => some (v :: vs)
    | _, _ => none

theorem Holds.getL {N : Nat} {D : List Deferred} {E : Env} {a : Act} (hE : Holds N D E a) : ∀ {l : Live} {vs : List Value}, getL l E = some vs → Holds N D (envOf l vs) a
  | [], vs, h => by
    simp only [V.getL] at h
    cases h
    exact ⟨hE.1, hE.2.1, fun t v hv => by simp [envOf, get] at hv⟩
  | (s, k) :: l, vs, h => by
    simp only [V.getL] at h
    split at h
    · rename_i v vs' hv hvs
      cases h
      have ih := hE.getL hvs
      refine ⟨hE.1, hE.2.1, fun t u hu => ?_⟩
      simp only [envOf, get] at hu
      cases hb : Nat.beq s t <;> rw [hb] at hu
      · exact ih.2.2 t u hu
      · simp only [cond_true] at hu
        have : s = t := Nat.eq_of_beq_eq_true hb
        subst this
        cases hu
        exact hE.2.2 s v hv
    · cases h

/-- A row of quiet operations. -/
def qr : Nat → Nat → RI → RI
  | _, 0, R => R
  | i, n + 1, R => .q i (qr (i + 1) n R)

inductive Ann where
  | leaf
  | reg (R : RI)
  | drw (R : RI)
  | seq (a b : Ann)
  | join (live : Live) (a b : Ann)
  | cond (a b : Ann)
  | block (a : Ann)
  | loop (live : Live) (a : Ann)
  | lab (live : Live) (a : Ann)
  | scope (a : Ann)

/-- Code without labels of its own scope. -/
def noLabC : Code → Bool
  | .seq a b => noLabC a && noLabC b
  | .label _ => false
  | _ => true

theorem noLabC_find : ∀ {c : Code}, noLabC c = true → ∀ l, findLabel c l = none := by
  intro c
  induction c with
  | seq a b iha ihb =>
    intro h l
    simp only [noLabC, Bool.and_eq_true] at h
    simp only [findLabel, iha h.1 l, ihb h.2 l]
  | label l' => intro h; simp [noLabC] at h
  | _ => intro h l; rfl

/-- No label of a scope that is not closed. -/
def noLab : Ann → Bool
  | .seq a b | .cond a b => noLab a && noLab b
  | .join _ a b => noLab a && noLab b
  | .block a | .loop _ a => noLab a
  | .lab _ _ => false
  | _ => true

def thenE (next : Env → Heap → Prop) (Q : Exit → Env → Heap → Prop) : Exit → Env → Heap → Prop
  | .normal, E, h => next E h
  | e, E, h => Q e E h

def inBlockE (id : Nat) (Q : Exit → Env → Heap → Prop) : Exit → Env → Heap → Prop
  | .exit id', E, h => bif Nat.beq id' id then Q .normal E h else Q (.exit id') E h
  | e, E, h => Q e E h

/-- A scope's code whose label stands at its end. -/
def labsOk : Code → Ann → Bool
  | .seq (.label _) _, .lab _ q => noLab q
  | .seq a b, .seq p q => noLabC a && (noLab p && labsOk b q)
  | .seq a b, .join _ p q => noLabC a && (noLab p && labsOk b q)
  | _, p => noLab p

def gotoE (l : Nat) (live : Live) (L : List Value → Heap → Prop) (Q : Exit → Env → Heap → Prop) : Exit → Env → Heap → Prop
  | .goto l', E, h => bif Nat.beq l' l then (match getL live E with | some vs => L vs h | none => False) else Q (.goto l') E h
  | e, E, h => Q e E h

def noGotoE (Q : Exit → Env → Heap → Prop) : Exit → Env → Heap → Prop
  | .goto _, _, _ => False
  | e, E, h => Q e E h

def eqNs : List Nat → List Nat → Bool
  | [], [] => true
  | a :: l, b :: m => Nat.beq a b && eqNs l m
  | _, _ => false

theorem eqNs_eq : ∀ {l m : List Nat}, eqNs l m = true → l = m
  | [], [], _ => rfl
  | a :: l, b :: m, h => by
    simp only [eqNs, Bool.and_eq_true] at h
    rw [Nat.eq_of_beq_eq_true h.1, eqNs_eq h.2]
  | [], _ :: _, h => by simp [eqNs] at h
  | _ :: _, [], h => by simp [eqNs] at h

def noDeferL (ops : Array Oper) : Bool := ops.toList.all fun o => match o.op with | .defer _ => false | _ => true

theorem noDeferL_spec {ops : Array Oper} (h : noDeferL ops = true) : noDefer ops = true := by
  unfold noDeferL at h
  unfold noDefer
  rw [← Array.all_toList]
  exact h

def okPlain (ops : Array Oper) (N : Nat) (R : RI) : Bool := okI ops N none [] [] R && (match rowOf (lin R .nil) with | some l => eqNs l (List.range ops.toList.length) | none => false)

def okDraw (ops : Array Oper) (N : Nat) (R : RI) : Bool :=
  okI ops N none [] [] R && (okO (ancB (mkAnc ops.toList [])) R [] [] (fun _ _ => true) && (okAnc ops (mkAnc ops.toList []) && (Nat.ble (mkAnc ops.toList []).length ops.toList.length && (Region.noSelect ops && (noDeferL ops && okR ops ops.toList.length (lin R .nil) (Array.replicate ops.toList.length false))))))

section
variable (P : Program) (w₀ : World) (N : Nat)

/-- **The condition of code.** -/
def vc : Code → Ann → Env → Heap → (Exit → Env → Heap → Prop) → Prop
  | .skip, _, E, h, Q => Q .normal E h
  | .label _, _, E, h, Q => Q .normal E h
  | .exit id, _, E, h, Q => Q (.exit id) E h
  | .goto l, _, E, h, Q => Q (.goto l) E h
  | .ret, _, E, h, Q => Q .ret E h
  | .region _ ops false, .reg R, E, h, Q => bif okPlain ops N R then vcR P w₀ ops R E h [] (fun E h _ => Q .normal E h) (fun c E h => Q (.panic c) E h) else False
  | .region _ ops true, .drw R, E, h, Q => bif okDraw ops N R then vcR P w₀ ops R E h [] (fun E h _ => Q .normal E h) (fun c _ h => Q (.panic c) [] h) else False
  | .seq (.label l) y, .lab live q, E, h, Q => ∀ L : List Value → Heap → Prop, (AllT live fun vs E' => ∀ h' : Heap, vc y q E' h' (gotoE l live L Q) → L vs h') → match getL live E with | some vs => L vs h | none => False
  | .scope x, .scope p, E, h, Q => bif labsOk x p then vc x p E h (noGotoE Q) else False
  | .seq x y, .seq a b, E, h, Q => vc x a E h (thenE (fun E h => vc y b E h Q) Q)
  | .seq x y, .join live a b, E, h, Q => ∀ J : List Value → Heap → Prop, (AllT live fun vs E' => ∀ h' : Heap, vc y b E' h' Q → J vs h') →
      vc x a E h (thenE (fun E' h' => match getL live E' with | some vs => J vs h' | none => False) Q)
  | .cond c x y, .cond a b, E, h, Q => match val E c with
    | some (.bool t) => (t = true → vc x a E h Q) ∧ (t = false → vc y b E h Q)
    | _ => False
  | .block id x, .block a, E, h, Q => vc x a E h (inBlockE id Q)
  | .loop x, .loop live a, E, h, Q => ∀ L : List Value → Heap → Prop,
      (AllT live fun vs E' => ∀ h' : Heap, vc x a E' h' (thenE (fun E'' h'' => match getL live E'' with | some vs => L vs h'' | none => False) Q) → L vs h') →
      match getL live E with | some vs => L vs h | none => False
  | _, _, _, _, _ => False
end

def liftQ0 (N : Nat) (D : List Deferred) (Q : Exit → Env → Heap → Prop) : Exit → Act → Heap → Prop
  | .panic c, a, h => Holds N D [] a ∧ Q (.panic c) [] h
  | e, a, h => ∃ E, Holds N D E a ∧ Q e E h

def liftQ (N : Nat) (D : List Deferred) (Q : Exit → Env → Heap → Prop) : Exit → Act → Heap → Prop
  | e, a, h => ∃ E, Holds N D E a ∧ Q e E h

section
variable {r : Option Nat} {P : Program} {w₀ : World} {N : Nat} {D : List Deferred}

theorem okO_true : ∀ (R : RI) (seen lost : List Nat) (k : List Nat → List Nat → Bool), (∀ s l, k s l = true) → okO (fun _ _ => true) R seen lost k = true
  | .done, _, _, _, hk => hk _ _
  | .q _ rest, _, _, _, hk => okO_true rest _ _ _ hk
  | .c _ _ rest, _, _, _, hk => by simp [okO, okO_true rest _ _ _ hk]
  | .g _ _ body _ rest, _, _, _, hk => by simp [okO, okO_true rest _ _ _ hk, okO_true body _ _ (fun _ _ => true) (fun _ _ => rfl)]
  | .gd _ _ body _ rest, _, _, k, hk => by
    simp only [okO, Bool.and_eq_true]
    exact ⟨okO_true body _ _ _ fun s l => okO_true rest s l k hk, okO_true rest _ _ _ hk⟩
  | .alt x y, _, _, _, hk => by simp [okO, okO_true x _ _ _ hk, okO_true y _ _ _ hk]

def SndP (r : Option Nat) (P : Program) (w₀ : World) (N : Nat) (D : List Deferred) (c : Code) : Prop := ∀ (ann : Ann) (E : Env) (h : Heap) (Q : Exit → Env → Heap → Prop) (a : Act), noLab ann = true → vc P w₀ N c ann E h Q → Holds N D E a → WA r P w₀ c (liftQ N D Q) a h

def ScP (r : Option Nat) (P : Program) (w₀ : World) (N : Nat) (D : List Deferred) (c : Code) : Prop := ∀ (ann : Ann) (E : Env) (h : Heap) (Q : Exit → Env → Heap → Prop) (a : Act) (x0 : Code) (J : Nat → Act → Heap → Prop), labsOk c ann = true →
  (∀ l rest, findLabel c l = some rest → findLabel x0 l = some rest) → (∀ l rest a h, findLabel x0 l = some rest → WA r P w₀ rest (jumpH x0 J (liftQ N D Q)) a h → J l a h) →
  vc P w₀ N c ann E h (noGotoE Q) → Holds N D E a → WA r P w₀ c (jumpH x0 J (liftQ N D Q)) a h

theorem liftQ_jump {x0 : Code} {J : Nat → Act → Heap → Prop} {Q : Exit → Env → Heap → Prop} {e : Exit} {a : Act} {h : Heap} (H : liftQ N D (noGotoE Q) e a h) : jumpH x0 J (liftQ N D Q) e a h := by
  obtain ⟨E, g1, g2⟩ := H
  cases e with
  | goto l => exact g2.elim
  | _ => exact ⟨E, g1, g2⟩

theorem ScP_of {c : Code} (H : SndP r P w₀ N D c) (hl : ∀ ann, labsOk c ann = true → noLab ann = true) : ScP r P w₀ N D c := fun ann E h Q a x0 J hlab hf hJ hv hE =>
  WA_mono (fun e a' h' hq => liftQ_jump hq) (H ann E h _ a (hl ann hlab) hv hE)

theorem vc_both (hm : P.follows .mixedOrders = true) : ∀ (c : Code), SndP r P w₀ N D c ∧ ScP r P w₀ N D c := by
  intro c
  induction c with
  | skip =>
    have snd : SndP r P w₀ N D (.skip) := by
      intro ann E h Q a hnl H hE; simp only [vc] at H; exact WA_skip ⟨E, hE, H⟩
    exact ⟨snd, ScP_of snd fun ann h => by simpa [labsOk] using h⟩
  | label l =>
    have snd : SndP r P w₀ N D (.label l) := by
      intro ann E h Q a hnl H hE; simp only [vc] at H; exact WA_label ⟨E, hE, H⟩
    exact ⟨snd, ScP_of snd fun ann h => by simpa [labsOk] using h⟩
  | exit id =>
    have snd : SndP r P w₀ N D (.exit id) := by
      intro ann E h Q a hnl H hE; simp only [vc] at H; exact WA_exit ⟨E, hE, H⟩
    exact ⟨snd, ScP_of snd fun ann h => by simpa [labsOk] using h⟩
  | goto l =>
    have snd : SndP r P w₀ N D (.goto l) := by
      intro ann E h Q a hnl H hE; simp only [vc] at H; exact WA_goto ⟨E, hE, H⟩
    exact ⟨snd, ScP_of snd fun ann h => by simpa [labsOk] using h⟩
  | ret =>
    have snd : SndP r P w₀ N D (.ret) := by
      intro ann E h Q a hnl H hE; simp only [vc] at H; exact WA_ret ⟨E, hE, H⟩
    exact ⟨snd, ScP_of snd fun ann h => by simpa [labsOk] using h⟩
  | region id ops draw =>
    have snd : SndP r P w₀ N D (.region id ops draw) := by
      intro ann E h Q a hnl H hE
      cases draw <;> cases ann <;> try (simp only [vc] at H; done)
      · rename_i R
        simp only [vc] at H
        cases hok : okPlain ops N R <;> rw [hok] at H
        · exact H.elim
        simp only [cond_true] at H
        simp only [okPlain, Bool.and_eq_true] at hok
        obtain ⟨h1, h2⟩ := hok
        split at h2
        case h_2 => cases h2
        rename_i l hl
        refine WA_region_plain (an := fun _ _ => true) (R := lin R .nil) (by rw [hl, eqNs_eq h2]; simp) ?_
        exact vcR_lex (r := r) (Q := liftQ N D Q) (an := fun _ _ => true) (D := D) R none [] [] E h [] _ _ [] [] (fun _ _ => true) a [] .nil h1 (okO_true R [] [] _ fun _ _ => rfl) H hE trivial (fun j w e => by cases e)
          (fun p hp => by cases hp) (fun c E' h' a' hd hq => ⟨E', hd, hq⟩) (fun E' h' pd' a' pdA' seen' lost' g1 g2 g3 g4 g5 g6 => ⟨E', g2, g1⟩)
      · rename_i R
        simp only [vc] at H
        cases hok : okDraw ops N R <;> rw [hok] at H
        · exact H.elim
        simp only [cond_true] at H
        simp only [okDraw, Bool.and_eq_true] at hok
        obtain ⟨h1, h2, h3, h4, h5, h6, h8⟩ := hok
        refine WA_mono (Q := liftQ0 N D Q) (fun e a' h' hq => by cases e <;> first | exact ⟨_, hq⟩ | exact hq) ?_
        refine WA_region_draw (ancs := mkAnc ops.toList []) (R := lin R .nil) hm h3 (by simpa using Nat.le_of_ble_eq_true h4) h5 (noDeferL_spec h6) ?_ (by simpa using h8) ?_
        · rintro c a' d v h' ⟨g1, g2⟩
          exact ⟨⟨by have := g1.1; rwa [put_size] at this, by have := g1.2.1; rwa [put_defers'] at this, fun _ _ e => by cases e⟩, g2⟩
        · exact vcR_lex (r := r) (Q := liftQ0 N D Q) (an := ancB (mkAnc ops.toList [])) (D := D) R none [] [] E h [] _ _ [] [] (fun _ _ => true) a [] .nil h1 h2 H hE trivial (fun j w e => by cases e)
            (fun p hp => by cases hp) (fun c E' h' a' hd hq => ⟨⟨hd.1, hd.2.1, fun _ _ e => by cases e⟩, hq⟩) (fun E' h' pd' a' pdA' seen' lost' g1 g2 g3 g4 g5 g6 => ⟨E', g2, g1⟩)
    exact ⟨snd, ScP_of snd fun ann h => by simpa [labsOk] using h⟩
  | seq x y ihx ihy =>
    have snd : SndP r P w₀ N D (.seq x y) := by
      intro ann E h Q a hnl H hE
      cases ann <;> try (first | (simp only [vc] at H; done) | (simp [noLab] at hnl; done))
      · rename_i p q
        simp only [vc] at H
        simp only [noLab, Bool.and_eq_true] at hnl
        refine WA_seq (WA_mono ?_ (ihx.1 p E h _ a hnl.1 H hE))
        intro e a' h' hq
        cases e with
        | normal => obtain ⟨E', g1, g2⟩ := hq; exact ihy.1 q E' h' Q a' hnl.2 g2 g1
        | _ => exact hq
      · rename_i live p q
        simp only [vc] at H
        simp only [noLab, Bool.and_eq_true] at hnl
        have H1 := H (fun vs h' => ∀ a', Holds N D (envOf live vs) a' → WA r P w₀ y (liftQ N D Q) a' h') (AllT_intro fun vs h' hv a' ha' => ihy.1 q _ h' Q a' hnl.2 hv ha')
        refine WA_seq (WA_mono ?_ (ihx.1 p E h _ a hnl.1 H1 hE))
        intro e a' h' hq
        cases e with
        | normal =>
          obtain ⟨E', g1, g2⟩ := hq
          simp only [thenE] at g2
          split at g2
          · rename_i vs hvs; exact g2 a' (g1.getL hvs)
          · exact g2.elim
        | _ => exact hq
    refine ⟨snd, fun ann E h Q a x0 J hlab hf hJ H hE => ?_⟩
    cases ann <;> try (simp only [vc] at H; done)
    · rename_i p q
      simp only [vc] at H
      simp only [labsOk, Bool.and_eq_true] at hlab
      obtain ⟨l1, l2, l3⟩ := hlab
      refine WA_seq (WA_mono ?_ (ihx.1 p E h _ a l2 H hE))
      rintro e a' h' ⟨E', g1, g2⟩
      cases e with
      | normal => exact ihy.2 q E' h' Q a' x0 J l3 (fun l rest e => hf l rest (by simp [findLabel, noLabC_find l1 l, e])) hJ g2 g1
      | goto l => exact g2.elim
      | _ => exact ⟨E', g1, g2⟩
    · rename_i live p q
      simp only [vc] at H
      simp only [labsOk, Bool.and_eq_true] at hlab
      obtain ⟨l1, l2, l3⟩ := hlab
      have H1 := H (fun vs h' => ∀ a', Holds N D (envOf live vs) a' → WA r P w₀ y (jumpH x0 J (liftQ N D Q)) a' h') (AllT_intro fun vs h' hv a' ha' =>
        ihy.2 q _ h' Q a' x0 J l3 (fun l rest e => hf l rest (by simp [findLabel, noLabC_find l1 l, e])) hJ hv ha')
      refine WA_seq (WA_mono ?_ (ihx.1 p E h _ a l2 H1 hE))
      rintro e a' h' ⟨E', g1, g2⟩
      cases e with
      | normal =>
        simp only [thenE] at g2
        split at g2
        · rename_i vs hvs; exact g2 a' (g1.getL hvs)
        · exact g2.elim
      | goto l => exact g2.elim
      | _ => exact ⟨E', g1, g2⟩
    · rename_i live q
      cases x <;> try (simp only [vc] at H; done)
      rename_i l
      simp only [vc] at H
      have lq : noLab q = true := by simpa [labsOk] using hlab
      have hfl : findLabel x0 l = some (.seq .skip y) := hf l _ (by simp [findLabel])
      have H1 := H (fun vs h' => ∀ a', Holds N D (envOf live vs) a' → WA r P w₀ y (jumpH x0 J (liftQ N D Q)) a' h') (AllT_intro fun vs h' hv a' ha' => by
        refine WA_mono ?_ (ihy.1 q _ h' _ a' lq hv ha')
        rintro e a'' h'' ⟨E', g1, g2⟩
        cases e with
        | goto l' =>
          simp only [gotoE] at g2
          cases hb : Nat.beq l' l <;> rw [hb] at g2
          · exact g2.elim
          · have : l' = l := Nat.eq_of_beq_eq_true hb
            subst this
            simp only [cond_true] at g2
            split at g2
            · rename_i vs2 hvs2
              show (if (findLabel x0 l').isSome then J l' a'' h'' else _)
              rw [hfl]
              exact hJ l' _ a'' h'' hfl (WA_seq (WA_skip (g2 a'' (g1.getL hvs2))))
            · exact g2.elim
        | _ => exact ⟨E', g1, g2⟩)
      split at H1
      · rename_i vs hvs
        exact WA_seq (WA_label (H1 a (hE.getL hvs)))
      · exact H1.elim
  | cond c x y ihx ihy =>
    have snd : SndP r P w₀ N D (.cond c x y) := by
      intro ann E h Q a hnl H hE
      cases ann <;> try (simp only [vc] at H; done)
      rename_i p q
      simp only [vc] at H
      simp only [noLab, Bool.and_eq_true] at hnl
      split at H
      · rename_i t hv
        refine WA_cond (hE.val hv) ?_
        cases t
        · exact ihy.1 q E h Q a hnl.2 (H.2 rfl) hE
        · exact ihx.1 p E h Q a hnl.1 (H.1 rfl) hE
      · exact H.elim
    exact ⟨snd, ScP_of snd fun ann h => by simpa [labsOk] using h⟩
  | block id x ih =>
    have snd : SndP r P w₀ N D (.block id x) := by
      intro ann E h Q a hnl H hE
      cases ann <;> try (simp only [vc] at H; done)
      rename_i p
      simp only [vc] at H
      simp only [noLab] at hnl
      refine WA_block (WA_mono ?_ (ih.1 p E h _ a hnl H hE))
      intro e a' h' hq
      cases e with
      | exit id' =>
        obtain ⟨E', g1, g2⟩ := hq
        simp only [inBlockE] at g2
        simp only [inBlockH]
        cases hb : Nat.beq id' id <;> rw [hb] at g2
        · have : id' ≠ id := fun e => by subst e; simp at hb
          rw [if_neg this]; exact ⟨E', g1, g2⟩
        · rw [if_pos (Nat.eq_of_beq_eq_true hb)]; exact ⟨E', g1, g2⟩
      | _ => exact hq
    exact ⟨snd, ScP_of snd fun ann h => by simpa [labsOk] using h⟩
  | loop x ih =>
    have snd : SndP r P w₀ N D (.loop x) := by
      intro ann E h Q a hnl H hE
      cases ann <;> try (simp only [vc] at H; done)
      rename_i live p
      simp only [vc] at H
      simp only [noLab] at hnl
      refine WA_loop fun LA hLA => ?_
      have H1 := H (fun vs h' => ∀ a', Holds N D (envOf live vs) a' → LA a' h') (AllT_intro fun vs h' hv a' ha' => by
        refine hLA a' h' (WA_mono ?_ (ih.1 p _ h' _ a' hnl hv ha'))
        intro e a'' h'' hq
        cases e with
        | normal =>
          obtain ⟨E', g1, g2⟩ := hq
          simp only [thenE] at g2
          split at g2
          · rename_i vs hvs; exact g2 a'' (g1.getL hvs)
          · exact g2.elim
        | _ => exact hq)
      split at H1
      · rename_i vs hvs; exact H1 a (hE.getL hvs)
      · exact H1.elim
    exact ⟨snd, ScP_of snd fun ann h => by simpa [labsOk] using h⟩
  | scope x ih =>
    have snd : SndP r P w₀ N D (.scope x) := by
      intro ann E h Q a hnl H hE; cases ann <;> (try (simp only [vc] at H; done))
      rename_i p
      simp only [vc] at H
      cases hl : labsOk x p <;> rw [hl] at H
      · exact H.elim
      simp only [cond_true] at H
      exact WA_scope fun J hJ => ih.2 p E h Q a x J hl (fun _ _ e => e) hJ H hE
    exact ⟨snd, ScP_of snd fun ann h => by simpa [labsOk] using h⟩
  | rangeFunc f ps as b iha ihb =>
    have snd : SndP r P w₀ N D (.rangeFunc f ps as b) := by
      intro ann E h Q a hnl H hE; cases ann <;> (simp only [vc] at H)
    exact ⟨snd, ScP_of snd fun ann h => by simpa [labsOk] using h⟩
  | refuse w =>
    have snd : SndP r P w₀ N D (.refuse w) := by
      intro ann E h Q a hnl H hE; cases ann <;> (simp only [vc] at H)
    exact ⟨snd, ScP_of snd fun ann h => by simpa [labsOk] using h⟩

theorem vc_sound (hm : P.follows .mixedOrders = true) (c : Code) (ann : Ann) (E : Env) (h : Heap) (Q : Exit → Env → Heap → Prop) (a : Act) (hl : noLab ann = true) : vc P w₀ N c ann E h Q → Holds N D E a → WA r P w₀ c (liftQ N D Q) a h :=
  (vc_both hm c).1 ann E h Q a hl


/-! ### A function -/

def resF (P : Program) : List ResultVar → Env → Heap → (List Value → Prop) → Prop
  | [], _, _, K => K []
  | .tmp t :: l, E, h, K => match get E t with
    | some v => resF P l E h fun vs => K (v :: vs)
    | none => False
  | .cell t ty :: l, E, h, K => match get E t with
    | some v => loadF P ty h v fun u _ => resF P l E h fun vs => K (u :: vs)
    | none => False

def oneV : List Value → Value
  | [v] => v
  | vs => .tuple vs.toArray

def endQ (P : Program) (rs : List ResultVar) (R : Ending → Heap → Prop) : Exit → Env → Heap → Prop
  | .normal, E, h => resF P rs E h fun vs => R (.returned (oneV vs)) h
  | .ret, E, h => resF P rs E h fun vs => R (.returned (oneV vs)) h
  | .panic c, _, h => R (.panicked c) h
  | _, _, _ => False

def argE : Nat → List Value → Env
  | _, [] => []
  | i, v :: vs => (i, v) :: argE (i + 1) vs

theorem get_argE : ∀ {vs : List Value} {i t : Nat} {v : Value}, get (argE i vs) t = some v → i ≤ t ∧ vs[t - i]? = some v
  | [], i, t, v, h => by simp [argE, get] at h
  | u :: vs, i, t, v, h => by
    simp only [argE, get] at h
    cases hb : Nat.beq i t <;> rw [hb] at h
    · obtain ⟨h1, h2⟩ := get_argE h
      refine ⟨by omega, ?_⟩
      rw [show t - i = (t - (i + 1)) + 1 by omega]
      simpa using h2
    · simp only [cond_true] at h
      have : i = t := Nat.eq_of_beq_eq_true hb
      subst this
      cases h
      simp

def rvS (tmps : Array Value) : ResultVar → Sem Value
  | .tmp t => pure (tmps.getD t undef)
  | .cell a t => do loadVar t (← asAddr (tmps.getD a undef))

theorem results_eq (fn : Func) (tmps : Array Value) : results fn tmps = (do let vs ← fn.results.mapM (rvS tmps); pure (if h : vs.size = 1 then vs[0] else .tuple vs)) := by
  unfold results
  congr 1

theorem resF_run {rs : List ResultVar} {E : Env} {h : Heap} {K : List Value → Prop} (H : resF P rs E h K) {a : Act} (hE : Holds N D E a) :
    ∃ vs, K vs ∧ ∀ n, (rs.mapM (rvS a.tmps)).run P (on w₀ h n) = .ok vs (on w₀ h n) := by
  induction rs generalizing K with
  | nil => exact ⟨[], H, fun n => by simp⟩
  | cons x l ih =>
    cases x with
    | tmp t =>
      simp only [resF] at H
      split at H
      · rename_i v hv
        obtain ⟨vs, hK, hr⟩ := ih H
        have hg : a.tmps.getD t undef = v := by simp [hE.2.2 t v hv]
        have h1 : ∀ n, (rvS a.tmps (.tmp t)).run P (on w₀ h n) = .ok v (on w₀ h n) := fun n => by simp only [rvS, hg, Sem.run_pure]
        exact ⟨v :: vs, hK, fun n => by simp only [List.mapM_cons, Sem.run_bind, h1 n, Result.andThen_ok, hr n, Sem.run_pure]⟩
      · exact H.elim
    | cell t ty =>
      simp only [resF] at H
      split at H
      · rename_i v hv
        obtain ⟨u, ls, H, hk, hl⟩ := loadF_sound P H
        obtain ⟨vs, hK, hr⟩ := ih H
        have hg : a.tmps.getD t undef = v := by simp [hE.2.2 t v hv]
        have h1 : ∀ n, (rvS a.tmps (.cell t ty)).run P (on w₀ h n) = .ok u (on w₀ h n) := fun n => by
          have hl' := hl (on w₀ h n) hk
          simp only [rvS, hg]
          cases v with
          | pointer p =>
            cases p with
            | none => exact absurd hl' (by simp [Instr.loadAt, Instr.sureAddr, stuck, Sem.run])
            | some ad =>
              have hl'' : (loadVar ty ad).run P (on w₀ h n) = .ok u (on w₀ h n) := hl'
              simp only [asAddr, Sem.run_bind, Sem.run_pure, Result.andThen_ok, hl'']
          | _ => exact absurd hl' (by simp [Instr.loadAt, Instr.sureAddr, stuck, Sem.run])
        exact ⟨u :: vs, hK, fun n => by simp only [List.mapM_cons, Sem.run_bind, h1 n, Result.andThen_ok, hr n, Sem.run_pure]⟩
      · exact H.elim

theorem results_run {fn : Func} {E : Env} {h : Heap} {K : List Value → Prop} (H : resF P fn.results.toList E h K) {a : Act} (hE : Holds N D E a) (n : Nat) :
    ∃ vs, K vs ∧ (results fn a.tmps).run P (on w₀ h n) = .ok (oneV vs) (on w₀ h n) := by
  obtain ⟨vs, hK, hr⟩ := resF_run (w₀ := w₀) H hE
  refine ⟨vs, hK, ?_⟩
  rw [results_eq, Array.mapM_eq_mapM_toList]
  simp only [bind_map_left, Sem.run_bind, hr n, Result.andThen_ok, Sem.run_pure]
  match vs with
  | [] => simp [oneV]
  | [v] => simp [oneV]
  | v :: u :: l => simp [oneV]

/-- **A function's call, out of its body's condition.** -/
theorem callsE_of_vc (hm : P.follows .mixedOrders = true) {f : FuncId} {fn : Func} {c : Code} {ann : Ann} {args : List Value} {h : Heap} {R : Ending → Heap → Prop}
    (hf : P.funcs[f]? = some fn) (hb : fn.body = some c) (hN : fn.ntmps = N) (hl : Nat.ble args.length N = true) (hnl : noLab ann = true)
    (H : vc P w₀ N c ann (argE 0 args) h (endQ P fn.results.toList R)) : CallsE P w₀ f args.toArray h R := by
  intro n
  have hl' := Nat.le_of_ble_eq_true hl
  refine calls_of_wp hf hb ?_
  have hE : Holds N [] (argE 0 args) { tmps := args.toArray ++ Array.replicate (fn.ntmps - args.toArray.size) undef, defers := [] } := by
    refine ⟨by simp [hN]; omega, rfl, fun t v hv => ?_⟩
    obtain ⟨_, h2⟩ := get_argE hv
    rw [Nat.sub_zero] at h2
    have ht : t < args.length := (List.getElem?_eq_some_iff.1 h2).1
    rw [Array.getElem?_append_left (by simpa using ht)]
    simpa using h2
  have hW := vc_sound (r := none) (D := []) hm c ann _ h _ _ hnl H hE n
  have hW' := wpIn_wide.1 hW
  refine wp_mono hW' ?_
  rintro e a w ⟨h', n', rfl, hq⟩
  cases e with
  | normal =>
    obtain ⟨E', g1, g2⟩ := hq
    obtain ⟨vs, hK, hr⟩ := results_run (w₀ := w₀) (fn := fn) g2 g1 n'
    exact ⟨g1.2.1, _, hr, h', n', rfl, hK⟩
  | ret =>
    obtain ⟨E', g1, g2⟩ := hq
    obtain ⟨vs, hK, hr⟩ := results_run (w₀ := w₀) (fn := fn) g2 g1 n'
    exact ⟨g1.2.1, _, hr, h', n', rfl, hK⟩
  | panic ch => obtain ⟨E', g1, g2⟩ := hq; exact ⟨g1.2.1, h', n', rfl, g2⟩
  | exit id => obtain ⟨E', g1, g2⟩ := hq; exact g2.elim
  | goto l => obtain ⟨E', g1, g2⟩ := hq; exact g2.elim
  | outgrown => obtain ⟨E', g1, g2⟩ := hq; exact g2.elim
end

/-- A call that returns, its arguments as a list. -/
def CallV (P : Program) (w₀ : World) (f : FuncId) (args : List Value) (h : Heap) (K : Value → Heap → Prop) : Prop := CallsE P w₀ f args.toArray h (callPost K fun _ _ => False)

theorem CallV.mono {P : Program} {w₀ : World} {f : FuncId} {args : List Value} {h : Heap} {K K' : Value → Heap → Prop} (H : CallV P w₀ f args h K) (hr : ∀ v h, K v h → K' v h) : CallV P w₀ f args h K' :=
  CallsE.mono H fun e h q => by cases e <;> first | exact hr _ _ q | exact q

end Go.V
