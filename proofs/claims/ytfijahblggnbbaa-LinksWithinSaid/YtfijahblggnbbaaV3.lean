/- The quiet operations together, and those that make or write memory, or call: the condition of each, and that it is enough. No condition. -/
import Derived.Test.YtfijahblggnbbaaV2
import Derived.Laws.Tables
namespace Go.V

section
variable (P : Program) (w₀ : World)

def vals2 (E : Env) : List (Nat × Operand) → Option (List (Nat × Value))
  | [] => some []
  | (i, x) :: r => match val E x, vals2 E r with
    | some v, some vs => some ((i, v) :: vs)
    | _, _ => none

theorem Holds.vals2 {N : Nat} {D : List Deferred} {E : Env} {a : Act} (hE : Holds N D E a) : ∀ {l : List (Nat × Operand)} {vs : List (Nat × Value)}, vals2 E l = some vs → l.map (fun (i, x) => (i, a.eval x)) = vs
  | [], vs, h => by simpa [V.vals2] using h
  | (i, x) :: r, vs, h => by
    simp only [V.vals2] at h
    split at h
    · rename_i v vs' hv hvs
      cases h
      simp [hE.val hv, hE.vals2 hvs]
    · cases h

def ovalF (E : Env) (x : Option Operand) (K : Option Value → Prop) : Prop :=
  match x with
  | none => K none
  | some x => match val E x with
    | some v => K (some v)
    | none => False

theorem ovalF_out {N : Nat} {D : List Deferred} {E : Env} {a : Act} (hE : Holds N D E a) {x : Option Operand} {K : Option Value → Prop} (H : ovalF E x K) : K (x.map a.eval) := by
  cases x with
  | none => exact H
  | some x =>
    simp only [ovalF] at H
    split at H
    · rename_i v hv; simpa [hE.val hv] using H
    · exact H.elim

def isConst : Operand → Bool
  | .const _ => true
  | _ => false

def concreteB (t : TypeId) : Bool := P.concrete t

def noIface (t : TypeId) : Bool := match P.underlying t with
  | some (.interface _) => false
  | some _ => true
  | none => false

/-- Is a function's value nil? -/
def IsNilF : Value → Bool → Prop
  | .func _ _ _, b => b = false
  | .nilFunc, b => b = true
  | _, _ => False

def fnTy (t : TypeId) : Bool := match P.underlying t with
  | some (.func _ _ _) => true
  | _ => false

/-- A quiet operation's condition. -/
def qF (op : Op) (E : Env) (h : Heap) (K : Value → LS → Prop) : Prop :=
  match op with
  | .move x => match val E x with | some v => K v [] | none => False
  | .assign x => match val E x with | some v => K v [] | none => False
  | .pick c a b => match val E c with
    | some (.bool t) => match val E a, val E b with | some x, some y => K (bif t then x else y) [] | _, _ => False
    | _ => False
  | .nilCheck x => match val E x with
    | some (.pointer p) => ∃ a, p = some a ∧ K (.pointer (some a)) []
    | some (.func (.func f) fs cs) => K (.func (.func f) fs cs) []
    | _ => False
  | .binOp op t x y _ => match val E x, val E y with
    | some a, some .nilIface => bif isConst y then binF P op t a .nilIface (K · []) else False
    | some a, some .nilFunc => bif fnTy P t then ∃ b : Bool, IsNilF a b ∧ eqnF op b (K · []) else False
    | some a, some b => binF P op t a b (K · [])
    | _, _ => False
  | .unOp op _ x => match val E x with | some v => unF op v (K · []) | none => False
  | .convert s d x => match val E x with | some v => convF P s d v (K · []) | none => False
  | .fieldAddr t x f => match val E x with | some v => fieldAddrF P t f v (K · []) | none => False
  | .field t x f => match val E x with | some v => fieldF P t f v (K · []) | none => False
  | .indexAddr t x i => match val E x, val E i with | some v, some j => indexAddrF P t v j (K · []) | _, _ => False
  | .index t x i => match val E x, val E i with | some v, some j => indexF P t v j (K · []) | _, _ => False
  | .slice t x lo hi none => match val E x with
    | some v => ovalF E lo fun l => ovalF E hi fun h => sliceF P t v l h (K · [])
    | none => False
  | .extract x i => match val E x with
    | some (.tuple vs) => match vs.toList[i]? with | some v => K v [] | none => False
    | _ => False
  | .build t parts => match vals2 E parts.toList with
    | some ps => match P.built t ps with | some cs => K (.agg cs) [] | none => False
    | none => False
  | .makeInterface t x => match val E x with
    | some v => bif concreteB P t then K (.iface t v) [] else False
    | none => False
  | .makeFunc fn first cap => match vals E first.toList, vals E cap.toList with
    | some fs, some cs => K (.func fn fs.toArray cs.toArray) []
    | _, _ => False
  | .load t x => match val E x with | some v => loadF P t h v K | none => False
  | .typeAssert x _ u true => match val E x with
    | some (.iface s v) => bif Nat.beq s u && noIface P u then K (.tuple #[v, .bool true]) [] else False
    | _ => False
  | .call { callee := .builtin .len, args, argTypes } => match args.toList, argTypes.toList with
    | [x], [t] => match val E x with | some v => lenF P t v (K · []) | none => False
    | _, _ => False
  | .call { callee := .builtin .min, args, .. } => match vals E args.toList with | some vs => minMaxF false vs (K · []) | none => False
  | .call { callee := .builtin .max, args, .. } => match vals E args.toList with | some vs => minMaxF true vs (K · []) | none => False
  | _ => False

theorem IsNilF.cases {u : Value} {b : Bool} (h : IsNilF u b) : (u = .nilFunc ∧ b = true) ∨ ∃ f fs cs, u = .func f fs cs ∧ b = false := by
  cases u <;> first | exact h.elim | exact .inl ⟨rfl, h⟩ | exact .inr ⟨_, _, _, rfl, h⟩

theorem fnTy_out {t : TypeId} (h : fnTy P t = true) : ∃ a1 a2 a3, P.underlying t = some (.func a1 a2 a3) := by
  unfold fnTy at h
  split at h
  · exact ⟨_, _, _, by assumption⟩
  · cases h

theorem nilFn_run {op : BinOp} {t : TypeId} {u : Value} {b : Bool} {xo yo : Operand} {K : Value → Prop} (hft : fnTy P t = true) (hb : IsNilF u b) (H : eqnF op b K) :
    ∃ v, K v ∧ ∀ w, (do eqGuard op t xo yo u .nilFunc; binOp op t u .nilFunc : Sem Value).run P w = .ok v w := by
  obtain ⟨a1, a2, a3, hty⟩ := fnTy_out P hft
  rcases hb.cases with ⟨rfl, rfl⟩ | ⟨f, fs, cs, rfl, rfl⟩
  · have he : ∀ (d : Nat) (w : World), (Op.equalIn (d + 3) t .nilFunc .nilFunc).run P w = .ok true w := fun d w => by
      unfold Op.equalIn
      simp only [Sem.run_bind, run_underlying hty, Result.andThen_ok]
      rfl
    have hg : ∀ w, (eqGuard op t xo yo .nilFunc .nilFunc).run P w = .ok () w := fun w => by cases op <;> rfl
    cases op <;> simp only [eqnF] at H
    case eql => exact ⟨_, H, fun w => by simp only [Sem.run_bind, hg, Result.andThen_ok, run_eql_of rfl he]⟩
    case neq => exact ⟨_, H, fun w => by simp only [Sem.run_bind, hg, Result.andThen_ok, run_neq_of rfl he]⟩
  · have he : ∀ (d : Nat) (w : World), (Op.equalIn (d + 3) t (.func f fs cs) .nilFunc).run P w = .ok false w := fun d w => by
      unfold Op.equalIn
      simp only [Sem.run_bind, run_underlying hty, Result.andThen_ok]
      rfl
    have hg : ∀ w, (eqGuard op t xo yo (.func f fs cs) .nilFunc).run P w = .ok () w := fun w => by cases op <;> rfl
    cases op <;> simp only [eqnF] at H
    case eql => exact ⟨_, H, fun w => by simp only [Sem.run_bind, hg, Result.andThen_ok, run_eql_of rfl he]⟩
    case neq => exact ⟨_, H, fun w => by simp only [Sem.run_bind, hg, Result.andThen_ok, run_neq_of rfl he]⟩

theorem run_value (s : Sem Value) {w w' : World} {v : Value} (h : s.run P w = .ok v w') : (do pure (Next.value (← s)) : Sem Next).run P w = .ok (.value v) w' := by
  simp only [Sem.run_bind, h, Result.andThen_ok, Sem.run_pure]

theorem qF_sound {op : Op} {E : Env} {h : Heap} {K : Value → LS → Prop} (H : qF P op E h K) {N : Nat} {D : List Deferred} {a : Act} (hE : Holds N D E a) {o : Oper} (ho : o.op = op) :
    ∃ v ls, K v ls ∧ Keeps ls h ∧ ∀ h', Keeps ls h' → Yld P w₀ o a v h' := by
  have nil : ∀ {v : Value}, K v [] → (∀ w : World, (execOp a.eval o).run P w = .ok (.value v) w) → ∃ v ls, K v ls ∧ Keeps ls h ∧ ∀ h', Keeps ls h' → Yld P w₀ o a v h' :=
    fun {v} hK hr => ⟨v, [], hK, (fun p hp => by cases hp), fun h' _ n => ⟨n, hr _⟩⟩
  have sem : ∀ {s : Sem Value}, (execOp a.eval o = (do pure (Next.value (← s)))) → (∃ v, K v [] ∧ ∀ w : World, s.run P w = .ok v w) → ∃ v ls, K v ls ∧ Keeps ls h ∧ ∀ h', Keeps ls h' → Yld P w₀ o a v h' :=
    fun he ⟨v, hK, hr⟩ => nil hK fun w => by rw [he]; exact run_value P _ (hr w)
  unfold qF at H
  split at H
  · rename_i x
    split at H
    · rename_i v hv; exact nil H fun w => by simp [execOp, ho, hE.val hv]
    · exact H.elim
  · rename_i x
    split at H
    · rename_i v hv; exact nil H fun w => by simp [execOp, ho, hE.val hv]
    · exact H.elim
  · rename_i c x y
    split at H
    · rename_i t hc
      split at H
      · rename_i u v hu hv
        exact nil H fun w => by cases t <;> simp [execOp, ho, hE.val hc, hE.val hu, hE.val hv, asBool]
      · exact H.elim
    · exact H.elim
  · rename_i x
    split at H
    · rename_i p hp
      obtain ⟨b, rfl, hK⟩ := H
      exact nil hK fun w => by simp [execOp, ho, hE.val hp]
    · rename_i f fs cs hp
      exact nil H fun w => by simp [execOp, ho, hE.val hp]
    · exact H.elim
  · rename_i bop t x y yt
    split at H
    · rename_i u hu hv
      cases hcy : isConst y
      · rw [hcy] at H; exact H.elim
      · rw [hcy] at H
        obtain ⟨v, hK, hr⟩ := binF_sound P (xo := x) (yo := y) (fun _ => by cases y <;> simp [isConst] at hcy ⊢) H
        exact nil hK fun w => by simp only [execOp, ho, hE.val hu, hE.val hv]; exact run_value P _ (hr w)
    · rename_i u hu hv
      cases hft : fnTy P t <;> rw [hft] at H
      · exact H.elim
      obtain ⟨b, hb, H⟩ := H
      obtain ⟨r, hK, hr⟩ := nilFn_run P (xo := x) (yo := y) hft hb H
      exact nil hK fun w => by simp only [execOp, ho, hE.val hu, hE.val hv]; exact run_value P _ (hr w)
    · rename_i u v hne hne2 hu hv
      obtain ⟨r, hK, hr⟩ := binF_sound P (xo := x) (yo := y) (fun e => (hne e).elim) H
      exact nil hK fun w => by simp only [execOp, ho, hE.val hu, hE.val hv]; exact run_value P _ (hr w)
    · exact H.elim
  · split at H
    · rename_i v hv
      obtain ⟨r, hK, hr⟩ := unF_sound P H
      exact nil hK fun w => by simp only [execOp, ho, hE.val hv]; exact run_value P _ (hr w)
    · exact H.elim
  · split at H
    · rename_i v hv
      obtain ⟨r, hK, hr⟩ := convF_sound P H
      exact nil hK fun w => by simp only [execOp, ho, hE.val hv]; exact run_value P _ (hr w)
    · exact H.elim
  · split at H
    · rename_i v hv
      obtain ⟨r, hK, hr⟩ := fieldAddrF_sound P H
      exact nil hK fun w => by simp only [execOp, ho, hE.val hv]; exact run_value P _ (hr w)
    · exact H.elim
  · split at H
    · rename_i v hv
      obtain ⟨r, hK, hr⟩ := fieldF_sound P H
      exact nil hK fun w => by simp only [execOp, ho, hE.val hv]; exact run_value P _ (hr w)
    · exact H.elim
  · split at H
    · rename_i v j hv hj
      obtain ⟨r, hK, hr⟩ := indexAddrF_sound P H
      exact nil hK fun w => by simp only [execOp, ho, hE.val hv, hE.val hj]; exact run_value P _ (hr w)
    · exact H.elim
  · split at H
    · rename_i v j hv hj
      obtain ⟨r, hK, hr⟩ := indexF_sound P H
      exact nil hK fun w => by simp only [execOp, ho, hE.val hv, hE.val hj]; exact run_value P _ (hr w)
    · exact H.elim
  · split at H
    · rename_i v hv
      have H := ovalF_out hE (ovalF_out hE H)
      obtain ⟨r, hK, hr⟩ := sliceF_sound P H
      exact nil hK fun w => by simp only [execOp, ho, hE.val hv, Option.map_none]; exact run_value P _ (hr w)
    · exact H.elim
  · rename_i x i
    split at H
    · rename_i vs hv
      split at H
      · rename_i v hi
        exact nil H fun w => by
          have hi' : vs[i]? = some v := by simpa using hi
          simp [execOp, ho, hE.val hv, Instr.extract, hi']
      · exact H.elim
    · exact H.elim
  · rename_i t parts
    split at H
    · rename_i ps hps
      split at H
      · rename_i cs hcs
        have he : (parts.map fun (i, x) => (i, a.eval x)).toList = ps := by rw [Array.toList_map]; exact hE.vals2 hps
        exact nil H fun w => by
          simp only [execOp, ho]
          exact run_value P _ (run_build w t _ cs (by rw [he]; exact hcs))
      · exact H.elim
    · exact H.elim
  · rename_i t x
    split at H
    · rename_i v hv
      cases hc : concreteB P t
      · rw [hc] at H; exact H.elim
      · rw [hc] at H
        exact nil H fun w => by simp only [execOp, ho, hE.val hv]; exact run_value P _ (run_makeInterface w t v hc)
    · exact H.elim
  · rename_i fn first cap
    split at H
    · rename_i fs cs hfs hcs
      have h1 : first.map a.eval = fs.toArray := by apply Array.toList_inj.1; rw [Array.toList_map]; exact hE.vals hfs
      have h2 : cap.map a.eval = cs.toArray := by apply Array.toList_inj.1; rw [Array.toList_map]; exact hE.vals hcs
      exact nil H fun w => by simp [execOp, ho, h1, h2, Instr.makeFunc]
    · exact H.elim
  · split at H
    · rename_i t x v hv
      obtain ⟨r, ls, hK, hk, hr⟩ := loadF_sound P H
      exact ⟨r, ls, hK, hk, fun h' hk' n => ⟨n, by simp only [execOp, ho, hE.val hv]; exact run_value P _ (hr _ hk')⟩⟩
    · exact H.elim
  · rename_i x xt u
    split at H
    · rename_i s v hv
      cases hc : (Nat.beq s u && noIface P u)
      · rw [hc] at H; exact H.elim
      · rw [hc] at H
        simp only [Bool.and_eq_true] at hc
        have hsu := Nat.eq_of_beq_eq_true hc.1
        subst hsu
        have hni := hc.2
        unfold noIface at hni
        split at hni
        · cases hni
        · rename_i d hd hu
          exact nil H fun w => by
            simp only [execOp, ho, hE.val hv]
            refine run_value P _ ?_
            unfold Instr.typeAssert
            simp only [Sem.run_bind, run_underlying hu, Result.andThen_ok]
            cases d <;> first | (exact absurd rfl (hd _)) | simp
        · cases hni
    · exact H.elim
  · rename_i args argTypes
    split at H
    · rename_i x t hx ht
      split at H
      · rename_i v hv
        obtain ⟨r, hK, hr⟩ := lenF_sound P (ty := o.type) H
        have h1 : args = #[x] := by apply Array.toList_inj.1; simpa using hx
        have h2 : argTypes = #[t] := by apply Array.toList_inj.1; simpa using ht
        exact nil hK fun w => by
          have := hr w
          simp [execOp, ho, h1, h2, resolve, invoke, builtin, hE.val hv, this]
      · exact H.elim
    · exact H.elim
  · rename_i args ats
    split at H
    · rename_i vs hvs
      unfold minMaxF at H
      split at H
      · rename_i k x k' y
        split at H
        · rename_i hk
          subst hk
          have h1 : args.map a.eval = #[.int k x, .int k y] := by apply Array.toList_inj.1; rw [Array.toList_map]; simpa using hE.vals hvs
          exact nil H fun w => by simp [execOp, ho, resolve, invoke, builtin, h1, Builtin.min_, Builtin.min2]
        · exact H.elim
      · exact H.elim
    · exact H.elim
  · rename_i args ats
    split at H
    · rename_i vs hvs
      unfold minMaxF at H
      split at H
      · rename_i k x k' y
        split at H
        · rename_i hk
          subst hk
          have h1 : args.map a.eval = #[.int k x, .int k y] := by apply Array.toList_inj.1; rw [Array.toList_map]; simpa using hE.vals hvs
          exact nil H fun w => by simp [execOp, ho, resolve, invoke, builtin, h1, Builtin.max_, Builtin.max2]
        · exact H.elim
      · exact H.elim
    · exact H.elim
  · exact H.elim
end
end Go.V
