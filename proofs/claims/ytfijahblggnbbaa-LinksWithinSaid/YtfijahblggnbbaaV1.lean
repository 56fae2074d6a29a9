/- Each operation's condition as a plain formula over values and a heap, and that it is enough. No condition. -/
import Derived.Test.YtfijahblggnbbaaV0
import Derived.WalkKit
import Derived.WalkLawsBesides
import Derived.WalkSpells
import Derived.Laws.IdiomCopy
import Derived.Laws.StructEq
import Derived.ChangeKeysEq
namespace Go.V

/-! ### What is known of a frame -/
abbrev Env := List (Nat × Value)

def get : Env → Nat → Option Value
  | [], _ => none
  | (s, v) :: r, t => bif Nat.beq s t then some v else get r t

def val (E : Env) : Operand → Option Value
  | .tmp t => get E t
  | .const v => some v
  | .global g => some (.pointer (some ⟨g, 0, none⟩))
  | .func f => some (.func (.func f) #[] #[])

def vals (E : Env) : List Operand → Option (List Value)
  | [] => some []
  | x :: r => match val E x, vals E r with
    | some v, some vs => some (v :: vs)
    | _, _ => none

def Holds (N : Nat) (D : List Deferred) (E : Env) (a : Act) : Prop :=
  a.tmps.size = N ∧ a.defers = D ∧ ∀ t v, get E t = some v → a.tmps[t]? = some v

theorem Holds.val {N : Nat} {D : List Deferred} {E : Env} {a : Act} (hE : Holds N D E a) {x : Operand} {v : Value} (h : val E x = some v) : a.eval x = v := by
  cases x with
  | tmp t => have := hE.2.2 t v h; simp [Act.eval, this]
  | const u => simpa [V.val, Act.eval] using h
  | global g => simpa [V.val, Act.eval] using h
  | func f => simpa [V.val, Act.eval] using h

theorem Holds.vals {N : Nat} {D : List Deferred} {E : Env} {a : Act} (hE : Holds N D E a) : ∀ {l : List Operand} {vs : List Value}, vals E l = some vs → l.map a.eval = vs
  | [], vs, h => by simpa [V.vals] using h
  | x :: r, vs, h => by
    simp only [V.vals] at h
    split at h
    · rename_i v vs' hv hvs
      cases h
      simp [hE.val hv, hE.vals hvs]
    · cases h

theorem Holds.put {N : Nat} {D : List Deferred} {E : Env} {a : Act} (hE : Holds N D E a) {d : Nat} (hd : d < N) (v : Value) : Holds N D ((d, v) :: E) (a.put (some d) v) := by
  obtain ⟨h1, h2, h3⟩ := hE
  refine ⟨by simp [Act.put, h1], h2, fun t u h => ?_⟩
  simp only [get] at h
  by_cases hdt : d = t
  · subst hdt
    simp at h
    subst h
    simp [Act.put, h1, hd]
  · have : Nat.beq d t = false := by
      cases hb : Nat.beq d t
      · rfl
      · exact absurd (Nat.eq_of_beq_eq_true hb) hdt
    rw [this] at h
    simp only [cond_false] at h
    simp [Act.put, Array.getElem?_setIfInBounds_ne hdt, h3 t u h]

theorem Holds.put_none {N : Nat} {D : List Deferred} {E : Env} {a : Act} (hE : Holds N D E a) (v : Value) : Holds N D E (a.put none v) := hE

def putE (E : Env) : Option Nat → Value → Env
  | some d, v => (d, v) :: E
  | none, _ => E

theorem Holds.put' {N : Nat} {D : List Deferred} {E : Env} {a : Act} (hE : Holds N D E a) {d : Option Nat} (hd : ∀ t, d = some t → t < N) (v : Value) : Holds N D (putE E d v) (a.put d v) := by
  cases d with
  | none => exact hE
  | some d => exact hE.put (hd d rfl) v

/-! ### Kinds of cells -/
inductive Kd where
  | int (k : IntKind) | bool | ptr | addr | slice | str | val
  | agg (l : List Kd)
  | tup (l : List Kd)

def kdOf : Value → Kd
  | .int k _ => .int k
  | .bool _ => .bool
  | .pointer _ => .ptr
  | .slice _ _ _ => .slice
  | .string _ => .str
  | _ => .val

def ExK : Kd → (Value → Prop) → Prop
  | .int k, F => ∃ n : Int, F (.int k n)
  | .bool, F => ∃ b : Bool, F (.bool b)
  | .ptr, F => ∃ p : Option Addr, F (.pointer p)
  | .addr, F => ∃ a : Addr, F (.pointer (some a))
  | .slice, F => ∃ (p : Option Addr) (n c : Nat), F (.slice p n c)
  | .str, F => ∃ s : ByteArray, F (.string s)
  | .val, F => ∃ v : Value, F v
  | .agg _, _ => False
  | .tup _, _ => False

theorem ExK.out {k : Kd} {F : Value → Prop} (h : ExK k F) : ∃ v, F v := by
  cases k <;> simp only [ExK] at h
  case slice => obtain ⟨p, n, c, h⟩ := h; exact ⟨_, h⟩
  all_goals first | exact h.elim | (obtain ⟨x, h⟩ := h; exact ⟨_, h⟩)

/-- A value's kind, off the zero value of its type. -/
def kdZ : Value → Kd
  | .agg cs => .agg (cs.toList.map kdOf)
  | .tuple vs => .tup (vs.toList.map fun v => match v with | .agg cs => .agg (cs.toList.map kdOf) | v => kdOf v)
  | v => kdOf v

mutual
/-- There is a value of that kind. -/
def ExV : Kd → (Value → Prop) → Prop
  | .agg l, F => ExVs l fun vs => F (.agg vs.toArray)
  | .tup l, F => ExVs l fun vs => F (.tuple vs.toArray)
  | .int k, F => ∃ n : Int, F (.int k n)
  | .bool, F => ∃ b : Bool, F (.bool b)
  | .ptr, F => ∃ p : Option Addr, F (.pointer p)
  | .addr, F => ∃ a : Addr, F (.pointer (some a))
  | .slice, F => ∃ (p : Option Addr) (n c : Nat), F (.slice p n c)
  | .str, F => ∃ s : ByteArray, F (.string s)
  | .val, F => ∃ v : Value, F v
def ExVs : List Kd → (List Value → Prop) → Prop
  | [], F => F []
  | k :: ks, F => ExV k fun v => ExVs ks fun vs => F (v :: vs)
end

mutual
theorem ExV.out : ∀ {k : Kd} {F : Value → Prop}, ExV k F → ∃ v, F v
  | .agg _, _, h => let ⟨_, h⟩ := ExVs.out h; ⟨_, h⟩
  | .tup _, _, h => let ⟨_, h⟩ := ExVs.out h; ⟨_, h⟩
  | .int _, _, ⟨_, h⟩ => ⟨_, h⟩
  | .bool, _, ⟨_, h⟩ => ⟨_, h⟩
  | .ptr, _, ⟨_, h⟩ => ⟨_, h⟩
  | .addr, _, ⟨_, h⟩ => ⟨_, h⟩
  | .slice, _, ⟨_, _, _, h⟩ => ⟨_, h⟩
  | .str, _, ⟨_, h⟩ => ⟨_, h⟩
  | .val, _, ⟨_, h⟩ => ⟨_, h⟩
theorem ExVs.out : ∀ {l : List Kd} {F : List Value → Prop}, ExVs l F → ∃ vs, F vs
  | [], _, h => ⟨_, h⟩
  | _ :: _, _, h => let ⟨_, h⟩ := ExV.out h; let ⟨_, h⟩ := ExVs.out h; ⟨_, h⟩
end

/-- Cells from an address on. -/
def cellsF (h : Heap) (a : Addr) : Nat → List Kd → (List Value → LS → Prop) → Prop
  | _, [], K => K [] []
  | i, k :: ks, K => ExK k fun v => cellAt h (a.add i) = some v ∧ cellsF h a (i + 1) ks fun vs ls => K (v :: vs) ((a.add i, v) :: ls)

theorem cellsF.out {h : Heap} {a : Addr} : ∀ {ks : List Kd} {i : Nat} {K : List Value → LS → Prop}, cellsF h a i ks K →
    ∃ vs ls, K vs ls ∧ vs.length = ks.length ∧ Keeps ls h ∧ ∀ h', Keeps ls h' → ∀ j v, vs[j]? = some v → cellAt h' (a.add (i + j)) = some v
  | [], i, K, H => ⟨[], [], H, rfl, (fun p hp => by cases hp), fun h' _ j v hj => by simp at hj⟩
  | k :: ks, i, K, H => by
    obtain ⟨v, hv, H⟩ := ExK.out H
    obtain ⟨vs, ls, hK, hl, hk, hc⟩ := cellsF.out H
    refine ⟨v :: vs, (a.add i, v) :: ls, hK, by simp [hl], fun p hp => ?_, fun h' hk' j u hj => ?_⟩
    · rcases List.mem_cons.1 hp with rfl | hp
      · exact hv
      · exact hk p hp
    · cases j with
      | zero => simp at hj; subst hj; exact hk' (a.add i, v) (List.mem_cons_self ..)
      | succ j =>
        have := hc h' (fun p hp => hk' p (List.mem_cons_of_mem _ hp)) j u (by simpa using hj)
        rwa [show i + 1 + j = i + (j + 1) by omega] at this

/-! ### Quiet operations -/
section
variable (P : Program)

/-- The kinds of a type's cells, off its zero value. -/
def kinds (t : TypeId) : Option (List Kd) :=
  match P.info? t with
  | some i => match i.zero with
    | some z => bif Nat.beq z.cells.toList.length i.size then some (z.cells.toList.map kdOf) else none
    | none => none
  | none => none

def isAggB (t : TypeId) : Option Bool :=
  match P.underlying t with
  | some (.struct _) => some true
  | some (.array _ _) => some true
  | some _ => some false
  | none => none

def loadF (t : TypeId) (h : Heap) (v : Value) (K : Value → LS → Prop) : Prop :=
  match v with
  | .pointer (some a) => match isAggB P t, kinds P t with
    | some true, some ks => cellsF h a 0 ks fun vs ls => K (.agg vs.toArray) ls
    | some false, some [k] => ExK k fun v => cellAt h a = some v ∧ K v [(a, v)]
    | _, _ => False
  | _ => False

def intF (op : BinOp) (k : IntKind) (x : Int) (k' : IntKind) (y : Int) (K : Value → Prop) : Prop :=
  match op with
  | .shl => 0 ≤ y ∧ K (.int k (k.wrap (x * 2 ^ min y.toNat k.bits)))
  | .shr => 0 ≤ y ∧ K (.int k (x.fdiv (2 ^ min y.toNat k.bits)))
  | .add => if k = k' then K (.int k (k.wrap (x + y))) else False
  | .sub => if k = k' then K (.int k (k.wrap (x - y))) else False
  | .mul => if k = k' then K (.int k (k.wrap (x * y))) else False
  | .quo => if k = k' then y ≠ 0 ∧ K (.int k (k.wrap (x.tdiv y))) else False
  | .rem => if k = k' then y ≠ 0 ∧ K (.int k (x.tmod y)) else False
  | .and => if k = k' then K (.int k (k.wrap (BitVec.ofInt k.bits x &&& BitVec.ofInt k.bits y).toNat)) else False
  | .or => if k = k' then K (.int k (k.wrap (BitVec.ofInt k.bits x ||| BitVec.ofInt k.bits y).toNat)) else False
  | .xor => if k = k' then K (.int k (k.wrap (BitVec.ofInt k.bits x ^^^ BitVec.ofInt k.bits y).toNat)) else False
  | .andNot => if k = k' then K (.int k (k.wrap (BitVec.ofInt k.bits x &&& ~~~ BitVec.ofInt k.bits y).toNat)) else False
  | .eql => if k = k' then K (.bool (x == y)) else False
  | .neq => if k = k' then K (.bool (x != y)) else False
  | .lss => if k = k' then K (.bool (decide (x < y))) else False
  | .leq => if k = k' then K (.bool (decide (x ≤ y))) else False
  | .gtr => if k = k' then K (.bool (decide (x > y))) else False
  | .geq => if k = k' then K (.bool (decide (x ≥ y))) else False

theorem intF_sound {op : BinOp} {k k' : IntKind} {x y : Int} {K : Value → Prop} (t : TypeId) (H : intF op k x k' y K) :
    ∃ v, K v ∧ ∀ w, (binOp op t (.int k x) (.int k' y)).run P w = .ok v w := by
  have e : ∀ (w : World) (v : Value), (pure v : Sem Value).run P w = .ok v w := fun _ _ => rfl
  cases op <;> simp only [intF] at H
  case shl => exact ⟨_, H.2, fun w => by simp [binOp, Op.shift, Int.not_lt.2 H.1, e]⟩
  case shr => exact ⟨_, H.2, fun w => by simp [binOp, Op.shift, Int.not_lt.2 H.1, e]⟩
  all_goals
    split at H
    case isFalse => exact H.elim
    case isTrue hk =>
      subst hk
      first
        | exact ⟨_, H.2, fun w => by simp [binOp, Op.intDiv, H.1, e]⟩
        | exact ⟨_, H, fun w => by simp [binOp, Op.intArith, Op.intBits, Op.intCmp, e]⟩

inductive TK where
  | bool | ptr | slice | iface | eface | str | other

def tk (t : TypeId) : TK :=
  match P.underlying t with
  | some .bool => .bool
  | some (.pointer _) => .ptr
  | some (.slice _) => .slice
  | some (.interface ms) => bif Nat.beq ms.toList.length 0 then .eface else .iface
  | some .string => .str
  | _ => .other

def eqnF (op : BinOp) (b : Bool) (K : Value → Prop) : Prop :=
  match op with
  | .eql => K (.bool b)
  | .neq => K (.bool (!b))
  | _ => False

/-- A part of a struct or an array that is a value. -/
def partP (t : TypeId) (cs : List Value) (o : Nat) : Option Value :=
  match isAggB P t with
  | some true => match P.info? t with
    | some i => some (.agg ((cs.drop o).take i.size).toArray)
    | none => none
  | some false => cs[o]?
  | none => none

def eqFs (r : TypeId → Value → Value → Option Bool) : List Field → List Value → List Value → Option Bool
  | [], _, _ => some true
  | f :: fs, xs, ys => bif f.name == "_" then none else
    match partP P f.type xs f.offset, partP P f.type ys f.offset with
    | some a, some b => match r f.type a b, eqFs r fs xs ys with
      | some u, some v => some (u && v)
      | _, _ => none
    | _, _ => none

def eqIs (r : Value → Value → Option Bool) (e : TypeId) (z : Nat) (xs ys : List Value) : List Nat → Option Bool
  | [] => some true
  | i :: l => match partP P e xs (i * z), partP P e ys (i * z) with
    | some a, some b => match r a b, eqIs r e z xs ys l with
      | some u, some v => some (u && v)
      | _, _ => none
    | _, _ => none

/-- Are two values of numbers and truths the same? -/
def eqP : Nat → TypeId → Value → Value → Option Bool
  | 0, _, _, _ => none
  | d + 1, t, x, y => match x, y with
    | .bool a, .bool b => match P.underlying t with | some .bool => some (a == b) | _ => none
    | .int k a, .int k' b => match P.underlying t with | some (.int _) => if k = k' then some (a == b) else none | _ => none
    | .agg xs, .agg ys => match P.underlying t with
      | some (.struct fs) => bif P.stoodInHeld t then none else eqFs P (eqP d) fs.toList xs.toList ys.toList
      | some (.array n e) => match P.info? e with
        | some i => eqIs P (eqP d e) e i.size xs.toList ys.toList (List.range n)
        | none => none
      | _ => none
    | _, _ => none

def binF (op : BinOp) (t : TypeId) (x y : Value) (K : Value → Prop) : Prop :=
  match x, y with
  | .int k a, .int k' b => intF op k a k' b K
  | .bool a, .bool b => match tk P t with | .bool => eqnF op (a == b) K | _ => False
  | .pointer p, .pointer none => match tk P t with | .ptr => eqnF op p.isNone K | _ => False
  | .slice p _ _, .slice none _ _ => match tk P t with | .slice => eqnF op p.isNone K | _ => False
  | .iface _ _, .nilIface => match tk P t with | .iface => eqnF op false K | .eface => eqnF op false K | _ => False
  | .nilIface, .nilIface => match tk P t with | .eface => eqnF op true K | .iface => eqnF op true K | _ => False
  | .agg xs, .agg ys => bif P.eqGuardType P.depth t then False else match eqP P 3 t (.agg xs) (.agg ys) with | some b => eqnF op b K | none => False
  | _, _ => False

theorem tk_bool {t : TypeId} (h : tk P t = .bool) : P.underlying t = some .bool := by
  unfold tk at h
  split at h <;> first | assumption | cases h | (split at h <;> cases h) | (revert h; cases Nat.beq _ _ <;> simp)

theorem tk_ptr {t : TypeId} (h : tk P t = .ptr) : ∃ e, P.underlying t = some (.pointer e) := by
  unfold tk at h
  split at h <;> first | exact ⟨_, by assumption⟩ | cases h | (revert h; cases Nat.beq _ _ <;> simp)

theorem tk_slice {t : TypeId} (h : tk P t = .slice) : ∃ e, P.underlying t = some (.slice e) := by
  unfold tk at h
  split at h <;> first | exact ⟨_, by assumption⟩ | cases h | (revert h; cases Nat.beq _ _ <;> simp)

theorem tk_iface {t : TypeId} (h : tk P t = .iface ∨ tk P t = .eface) : ∃ ms, P.underlying t = some (.interface ms) := by
  unfold tk at h
  split at h <;> first | exact ⟨_, by assumption⟩ | (rcases h with h | h <;> cases h)

variable {P} in
theorem run_eql_of {t : TypeId} {x y : Value} {b : Bool} (hb : binOp .eql t x y = (do pure (.bool (← Op.equal t x y)))) (h : ∀ d w, (Op.equalIn (d + 3) t x y).run P w = .ok b w) (w : World) :
    (binOp .eql t x y).run P w = .ok (.bool b) w := by
  rw [hb]
  have : (Op.equal t x y).run P w = .ok b w := h 9997 w
  simp only [Sem.run_bind, this, Result.andThen_ok, Sem.run_pure]

variable {P} in
theorem run_neq_of {t : TypeId} {x y : Value} {b : Bool} (hb : binOp .neq t x y = (do pure (.bool (!(← Op.equal t x y))))) (h : ∀ d w, (Op.equalIn (d + 3) t x y).run P w = .ok b w) (w : World) :
    (binOp .neq t x y).run P w = .ok (.bool (!b)) w := by
  rw [hb]
  have : (Op.equal t x y).run P w = .ok b w := h 9997 w
  simp only [Sem.run_bind, this, Result.andThen_ok, Sem.run_pure]

theorem isAggB_run {t : TypeId} {b : Bool} (h : isAggB P t = some b) (w : World) : (isAgg t).run P w = .ok b w := by
  cases hu : P.underlying t with
  | none => simp [isAggB, hu] at h
  | some d =>
    cases d <;> simp [isAggB, hu] at h <;> subst h <;> simp [isAgg, run_underlying hu]

theorem partP_sound {t : TypeId} {cs : Array Value} {o : Nat} {v : Value} (H : partP P t cs.toList o = some v) (w : World) : (part t cs o).run P w = .ok v w := by
  unfold partP at H
  split at H
  · rename_i hb
    split at H
    · rename_i i hi
      cases H
      simp [part, isAggB_run P hb w, sizeOf, typeInfo, hi, List.take_drop]
      apply Array.toList_inj.1
      simp [List.take_drop]
    · cases H
  · rename_i hb
    have H' : cs[o]? = some v := by simpa using H
    simp [part, isAggB_run P hb w, H']
  · cases H

theorem eqP_sound : ∀ (d D : Nat), d ≤ D → ∀ (t : TypeId) (x y : Value) (b : Bool), eqP P d t x y = some b → ∀ w, (Op.equalIn D t x y).run P w = .ok b w := by
  intro d
  induction d with
  | zero => intro D _ t x y b H; simp [eqP] at H
  | succ d ih =>
    intro D hD t x y b H w
    obtain ⟨D, rfl⟩ : ∃ D', D = D' + 1 := ⟨D - 1, by omega⟩
    have ih := ih D (by omega)
    have flds : ∀ (fs : List Field) (xs ys : Array Value) (b : Bool), eqFs P (eqP P d) fs xs.toList ys.toList = some b → (Op.eqFields D xs ys fs).run P w = .ok b w := by
      intro fs
      induction fs with
      | nil => intro xs ys b H; simp only [eqFs] at H; cases H; simp [Op.eqFields]
      | cons f fs ihf =>
        intro xs ys b H
        simp only [eqFs] at H
        cases hn : (f.name == "_") <;> rw [hn] at H
        · simp only [cond_false] at H
          split at H
          · rename_i u v hu hv
            split at H
            · rename_i p q hp hq
              cases H
              have hne : f.name ≠ "_" := by simpa using hn
              have h1 := ih _ _ _ _ hp w
              have h2 := ihf xs ys _ hq
              simp only [Op.eqFields, hne, ne_eq, not_false_eq_true, if_true, Sem.run_bind, partP_sound P hu w, partP_sound P hv w, Result.andThen_ok, h1]
              cases p <;> simp [h2]
            · cases H
          · cases H
        · cases H
    have itms : ∀ (e : TypeId) (z : Nat) (xs ys : Array Value) (l : List Nat) (b : Bool), eqIs P (eqP P d e) e z xs.toList ys.toList l = some b → (Op.eqItems D e z xs ys l).run P w = .ok b w := by
      intro e z xs ys l
      induction l with
      | nil => intro b H; simp only [eqIs] at H; cases H; simp [Op.eqItems]
      | cons i l ihl =>
        intro b H
        simp only [eqIs] at H
        split at H
        · rename_i u v hu hv
          split at H
          · rename_i p q hp hq
            cases H
            have h1 := ih _ _ _ _ hp w
            have h2 := ihl _ hq
            simp only [Op.eqItems, Sem.run_bind, partP_sound P hu w, partP_sound P hv w, Result.andThen_ok, h1]
            cases p <;> simp [h2]
          · cases H
        · cases H
    simp only [eqP] at H
    split at H
    · split at H
      · rename_i hu; cases H; simp [Op.equalIn, run_underlying hu]
      · cases H
    · split at H
      · rename_i hu
        split at H
        · rename_i hk; subst hk; cases H; simp [Op.equalIn, run_underlying hu]
        · cases H
      · cases H
    · rename_i xs ys
      split at H
      · rename_i fs hu
        cases hs : P.stoodInHeld t <;> rw [hs] at H
        · simp only [cond_false] at H
          have hf : P.fieldsOf t = fs := by simp [Program.fieldsOf, hu]
          rw [run_equalIn_struct w D t xs ys (by rw [hf]; exact hu) hs, hf]
          exact flds _ xs ys b H
        · cases H
      · rename_i n e hu
        split at H
        · rename_i i hi
          have hc : P.cellsOf e = i.size := by simp [Program.cellsOf, hi]
          rw [run_equalIn_array w D xs ys hu hi, hc]
          exact itms e i.size xs ys _ b H
        · cases H
      · cases H
    · cases H

theorem binF_sound {op : BinOp} {t : TypeId} {x y : Value} {xo yo : Operand} {K : Value → Prop} (hc : y = .nilIface → ∃ v, yo = .const v) (H : binF P op t x y K) :
    ∃ v, K v ∧ ∀ w, (do eqGuard op t xo yo x y; binOp op t x y : Sem Value).run P w = .ok v w := by
  have two : ∀ {b : Bool}, (∀ w, (eqGuard op t xo yo x y).run P w = .ok () w) → (binOp .eql t x y = (do pure (.bool (← Op.equal t x y)))) → (binOp .neq t x y = (do pure (.bool (!(← Op.equal t x y))))) →
      (∀ d w, (Op.equalIn (d + 3) t x y).run P w = .ok b w) → (match op with | .eql => K (.bool b) | .neq => K (.bool (!b)) | _ => False) →
      ∃ v, K v ∧ ∀ w, (do eqGuard op t xo yo x y; binOp op t x y : Sem Value).run P w = .ok v w := by
    intro b hg h1 h2 he H
    cases op <;> simp only at H
    case eql => exact ⟨_, H, fun w => by simp only [Sem.run_bind, hg, Result.andThen_ok, run_eql_of h1 he]⟩
    case neq => exact ⟨_, H, fun w => by simp only [Sem.run_bind, hg, Result.andThen_ok, run_neq_of h2 he]⟩
    all_goals exact H.elim
  have noG : (∀ a, x ≠ .agg a) → x ≠ .nilIface → ∀ w, (eqGuard op t xo yo x y).run P w = .ok () w := by
    intro h1 h2 w
    unfold eqGuard
    cases op <;> try rfl
    all_goals (cases x <;> first | exact absurd rfl h2 | exact absurd rfl (h1 _) | (cases y <;> rfl))
  have two3 : ∀ {b : Bool}, (∀ w, (eqGuard op t xo yo x y).run P w = .ok () w) → (binOp .eql t x y = (do pure (.bool (← Op.equal t x y)))) → (binOp .neq t x y = (do pure (.bool (!(← Op.equal t x y))))) →
      (∀ d w, (Op.equalIn (d + 3) t x y).run P w = .ok b w) → eqnF op b K → ∃ v, K v ∧ ∀ w, (do eqGuard op t xo yo x y; binOp op t x y : Sem Value).run P w = .ok v w :=
    fun hg h1 h2 he H => two hg h1 h2 he (by cases op <;> exact H)
  have two' : ∀ {b : Bool}, (∀ w, (eqGuard op t xo yo x y).run P w = .ok () w) → (binOp .eql t x y = (do pure (.bool (← Op.equal t x y)))) → (binOp .neq t x y = (do pure (.bool (!(← Op.equal t x y))))) →
      (∀ d w, (Op.equalIn (d + 1) t x y).run P w = .ok b w) → eqnF op b K → ∃ v, K v ∧ ∀ w, (do eqGuard op t xo yo x y; binOp op t x y : Sem Value).run P w = .ok v w :=
    fun hg h1 h2 he H => two hg h1 h2 (fun d w => he (d + 2) w) (by cases op <;> exact H)
  cases x <;> cases y <;> try exact H.elim
  case agg.agg xs ys =>
    simp only [binF] at H
    cases hg : P.eqGuardType P.depth t <;> rw [hg] at H
    · simp only [cond_false] at H
      split at H
      · rename_i b hb
        exact two3 (fun w => run_eqGuard_agg w op t xo yo xs ys hg) rfl rfl (fun d w => eqP_sound P 3 (d + 3) (by omega) t _ _ b hb w) H
      · exact H.elim
    · exact H.elim
  case int.int k a k' b =>
    obtain ⟨v, hv, hr⟩ := intF_sound P t H
    exact ⟨v, hv, fun w => by simp only [Sem.run_bind, noG (by simp) (by simp), Result.andThen_ok, hr]⟩
  case bool.bool a b =>
    simp only [binF] at H
    cases hk : tk P t <;> rw [hk] at H <;> try exact H.elim
    have hu := tk_bool P hk
    exact two' (noG (by simp) (by simp)) rfl rfl (fun d w => by simp [Op.equalIn, run_underlying hu]) H
  case pointer.pointer p q =>
    cases q with
    | some q => exact H.elim
    | none =>
      simp only [binF] at H
      cases hk : tk P t <;> rw [hk] at H <;> try exact H.elim
      obtain ⟨e, hu⟩ := tk_ptr P hk
      exact two' (noG (by simp) (by simp)) rfl rfl (fun d w => by cases p <;> simp [Op.equalIn, run_underlying hu]) H
  case slice.slice p n c q n' c' =>
    cases q with
    | some q => exact H.elim
    | none =>
      simp only [binF] at H
      cases hk : tk P t <;> rw [hk] at H <;> try exact H.elim
      obtain ⟨e, hu⟩ := tk_slice P hk
      exact two' (noG (by simp) (by simp)) rfl rfl (fun d w => by cases p <;> simp [Op.equalIn, run_underlying hu]) H
  case iface.nilIface u v =>
    simp only [binF] at H
    have hu : ∃ ms, P.underlying t = some (.interface ms) := tk_iface P (by cases hk : tk P t <;> rw [hk] at H <;> first | exact H.elim | simp)
    obtain ⟨ms, hu⟩ := hu
    exact two' (b := false) (noG (by simp) (by simp)) rfl rfl (fun d w => by simp [Op.equalIn, run_underlying hu]) (by cases hk : tk P t <;> rw [hk] at H <;> first | exact H.elim | exact H)
  case nilIface.nilIface =>
    obtain ⟨u, rfl⟩ := hc rfl
    simp only [binF] at H
    have hu : ∃ ms, P.underlying t = some (.interface ms) := tk_iface P (by cases hk : tk P t <;> rw [hk] at H <;> first | exact H.elim | simp)
    obtain ⟨ms, hu⟩ := hu
    exact two' (b := true) (fun w => by cases op <;> simp [eqGuard]) rfl rfl (fun d w => by simp [Op.equalIn, run_underlying hu]) (by cases hk : tk P t <;> rw [hk] at H <;> first | exact H.elim | exact H)

theorem loadF_sound {t : TypeId} {h : Heap} {x : Value} {K : Value → LS → Prop} (H : loadF P t h x K) :
    ∃ v ls, K v ls ∧ Keeps ls h ∧ ∀ w : World, Keeps ls w.heap → (Instr.loadAt t x).run P w = .ok v w := by
  unfold loadF at H
  split at H
  case h_2 => exact H.elim
  rename_i a
  split at H
  · rename_i ks hagg hks
    obtain ⟨vs, ls, hK, hl, hk, hc⟩ := cellsF.out H
    refine ⟨_, ls, hK, hk, fun w hw => ?_⟩
    have hsz : ∃ i, P.info? t = some i ∧ i.size = ks.length := by
      unfold kinds at hks
      split at hks
      · rename_i i hi
        split at hks
        · rename_i z hz
          cases hb : Nat.beq z.cells.toList.length i.size
          · rw [hb] at hks; cases hks
          · rw [hb] at hks
            cases hks
            exact ⟨i, hi, by simpa using (Nat.eq_of_beq_eq_true hb).symm⟩
        · cases hks
      · cases hks
    obtain ⟨i, hi, hsi⟩ := hsz
    have hrun := run_loadCells_list (P := P) w a vs (fun j v hj => by
      have := hc w.heap hw j v hj
      rwa [Nat.zero_add] at this)
    have hag := isAggB_run P hagg w
    simp [Instr.loadAt, Instr.sureAddr, loadVar, hag, sizeOf, typeInfo, hi, hsi, ← hl, hrun]
  · rename_i k hagg hks
    obtain ⟨v, hv, hK⟩ := ExK.out H
    refine ⟨v, _, hK, fun p hp => ?_, fun w hw => ?_⟩
    · rw [List.mem_singleton] at hp; subst hp; exact hv
    · have hcell : w.cell? a = some v := hw (a, v) (List.mem_cons_self ..)
      have hag := isAggB_run P hagg w
      simp [Instr.loadAt, Instr.sureAddr, loadVar, hag, load, Sem.run, hcell]
  · exact H.elim
end
end Go.V
