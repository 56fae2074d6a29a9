/- Operations that make or write memory, call or panic: the condition of each, and that it is enough. No condition. -/
import Derived.Test.YtfijahblggnbbaaV3
set_option linter.unusedSimpArgs false
set_option linter.unusedVariables false
namespace Go.V

/-! ### Heaps -/
def frozenAt (h : Heap) (a : Addr) : Bool :=
  match h[a.block]? with
  | some (.cells _ _ (lo, hi)) => lo ≤ a.off && a.off < hi
  | _ => false

def setC (h : Heap) (a : Addr) (v : Value) : Heap :=
  h.modify a.block fun
    | .cells c elem frozen => .cells (if a.spot.isSome then c else c.setIfInBounds a.off v) elem frozen
    | o => o

def setCs (h : Heap) (a : Addr) : Nat → List Value → Heap
  | _, [] => h
  | i, v :: vs => setCs (setC h (a.add i) v) a (i + 1) vs

theorem frozen_on (w : World) (h : Heap) (n : Nat) (a : Addr) : (on w h n).frozen? a = frozenAt h a := rfl
theorem setCell_on (w : World) (h : Heap) (n : Nat) (a : Addr) (v : Value) : (on w h n).setCell a v = on w (setC h a v) n := rfl

/-- The cell is there and may be written. -/
def Wr (h : Heap) (a : Addr) : Prop := (cellAt h a).isSome = true ∧ frozenAt h a = false

def oneC : Value → Bool
  | .agg _ => false
  | .tuple _ => false
  | _ => true

theorem cellAt_block {h : Heap} {a : Addr} (H : (cellAt h a).isSome = true) : ∃ c T f, h[a.block]? = some (.cells c T f) ∧ a.spot = none ∧ a.off < c.size := by
  unfold cellAt at H
  split at H
  · rename_i c T f hb
    split at H
    · cases H
    · rename_i hs
      refine ⟨c, T, f, hb, by simpa using hs, ?_⟩
      rcases Nat.lt_or_ge a.off c.size with hl | hl
      · exact hl
      · simp [Array.getElem?_eq_none hl] at H
  · cases H

theorem setC_block (h : Heap) (a : Addr) (v : Value) (b : Nat) : (setC h a v)[b]? = if b = a.block then (h[b]?).map (fun
    | .cells c elem frozen => .cells (if a.spot.isSome then c else c.setIfInBounds a.off v) elem frozen
    | o => o) else h[b]? := by
  unfold setC
  rw [Array.getElem?_modify]
  by_cases hb : b = a.block
  · simp [hb]
  · simp [hb, Ne.symm hb]

theorem Wr_setC {h : Heap} {a b : Addr} {v : Value} (H : Wr h b) : Wr (setC h a v) b := by
  obtain ⟨h1, h2⟩ := H
  obtain ⟨c, T, f, hb, hs, hl⟩ := cellAt_block h1
  unfold Wr cellAt frozenAt at *
  rw [setC_block]
  by_cases hab : b.block = a.block
  · simp only [hab, if_true] at *
    simp only [hb, Option.map_some, hs, Option.isSome_none, Bool.false_eq_true, if_false] at *
    refine ⟨?_, h2⟩
    split <;> simp [hl]
  · simp only [hab, if_false]
    exact ⟨h1, h2⟩

section
variable (P : Program) (w₀ : World)

theorem run_storeCells (a : Addr) : ∀ (vs : List Value) (i : Nat) (h : Heap) (n : Nat), (∀ j, j < vs.length → Wr h (a.add (i + j))) → (∀ v ∈ vs, oneC v = true) →
    (storeCells a vs i).run P (on w₀ h n) = .ok () (on w₀ (setCs h a i vs) n)
  | [], i, h, n, _, _ => rfl
  | v :: vs, i, h, n, hw, ho => by
    obtain ⟨h1, h2⟩ := hw 0 (by simp)
    obtain ⟨u, hu⟩ := Option.isSome_iff_exists.1 h1
    have hv := ho v (List.mem_cons_self ..)
    have hst : (store (a.add i) v).run P (on w₀ h n) = .ok () (on w₀ (setC h (a.add i) v) n) := by
      have hu' : (on w₀ h n).cell? (a.add i) = some u := hu
      have hf' : (on w₀ h n).frozen? (a.add i) = false := h2
      unfold store
      cases v <;> first | (simp [oneC] at hv; done) | (simp only [Sem.run, hu', hf', Bool.false_eq_true, if_false]; rfl)
    simp only [storeCells, Sem.run_bind, hst, Result.andThen_ok]
    exact run_storeCells a vs (i + 1) _ n (fun j hj => by
      have := hw (j + 1) (by simpa using hj)
      rw [show i + (j + 1) = i + 1 + j by omega] at this
      exact Wr_setC this) (fun u hu => ho u (List.mem_cons_of_mem _ hu))

/-- That many times the zero value's cells. -/
def zrow (z : List Value) (n : Nat) : List Value := (List.replicate n z).flatten

theorem zrow_length (z : List Value) (n : Nat) : (zrow z n).length = n * z.length := by simp [zrow]

theorem zrow_get (z : List Value) : ∀ (n i : Nat), i < n * z.length → (zrow z n)[i]? = z[i % z.length]?
  | 0, i, h => by omega
  | n + 1, i, h => by
    have hz : zrow z (n + 1) = z ++ zrow z n := by simp [zrow, List.replicate_succ]
    rw [hz]
    rcases Nat.lt_or_ge i z.length with hl | hl
    · rw [List.getElem?_append_left hl, Nat.mod_eq_of_lt hl]
    · have h1 : i - z.length < n * z.length := by rw [Nat.succ_mul] at h; omega
      rw [List.getElem?_append_right hl, zrow_get z n _ h1, Nat.mod_eq_sub_mod hl]

theorem range_map_zrow (z : Array Value) (n : Nat) : (Array.range (n * z.size)).map (fun i => z[i % z.size]!) = (zrow z.toList n).toArray := by
  apply Array.ext_getElem?
  intro i
  have e : (zrow z.toList n).toArray[i]? = (zrow z.toList n)[i]? := by simp
  rw [Array.getElem?_map, e]
  rcases Nat.lt_or_ge i (n * z.size) with hl | hl
  · have hp : 0 < z.size := by rcases Nat.eq_zero_or_pos z.size with h0 | h0; · rw [h0] at hl; omega
                               · exact h0
    have hm : i % z.size < z.size := Nat.mod_lt _ hp
    rw [zrow_get z.toList n i (by simpa using hl)]
    simp [hl, hm]
  · have : (zrow z.toList n)[i]? = none := List.getElem?_eq_none (by rw [zrow_length]; simpa using hl)
    rw [this]
    simp [hl]

/-- A row of cells that starts at p. -/
def rowAt (h : Heap) (p : Option Addr) (vs : List Value) : Prop :=
  match p with
  | none => vs = []
  | some a => ∀ j v, vs[j]? = some v → cellAt h (a.add j) = some v

theorem rowAt_first {h : Heap} {p : Option Addr} {vs : List Value} {z m c c' : Nat} (hr : rowAt h p vs) (hl : vs.length = m * z) (n : Nat) :
    (Builtin.firstCells z m (.slice p c c')).run P (on w₀ h n) = .ok vs.toArray (on w₀ h n) := by
  cases p with
  | none =>
    have : vs = [] := hr
    subst this
    rfl
  | some a =>
    have := run_loadCells_list (P := P) (on w₀ h n) a vs (fun j v hj => hr j v hj)
    rw [hl] at this
    exact this

/-- The element type's zero cells, bytes. -/
def elemZ (t : TypeId) : Option (TypeId × List Value × Nat) :=
  match P.underlying t with
  | some (.slice e) => match P.info? e with
    | some i => match i.zero with
      | some z => bif Nat.beq z.cells.toList.length i.size then (bif Nat.blt 0 i.bytes then (bif Nat.blt 0 i.size then some (e, z.cells.toList, i.bytes) else none) else none) else none
      | none => none
    | none => none
  | _ => none

theorem elemZ_out {t e b : Nat} {z : List Value} (h : elemZ P t = some (e, z, b)) : ∃ i zv, P.underlying t = some (.slice e) ∧ P.info? e = some i ∧ i.zero = some zv ∧ zv.cells.toList = z ∧ i.size = z.length ∧ i.bytes = b ∧ 0 < b ∧ 0 < z.length := by
  unfold elemZ at h
  split at h
  · rename_i e' hu
    split at h
    · rename_i i hi
      split at h
      · rename_i zv hz
        cases h1 : Nat.beq zv.cells.toList.length i.size <;> rw [h1] at h
        · cases h
        cases h2 : Nat.blt 0 i.bytes <;> rw [h2] at h
        · cases h
        cases h3 : Nat.blt 0 i.size <;> rw [h3] at h
        · cases h
        cases h
        have h4 := Nat.eq_of_beq_eq_true h1
        refine ⟨i, zv, hu, hi, hz, rfl, h4.symm, rfl, by simpa [Nat.blt_eq] using h2, ?_⟩
        rw [h4]
        simpa [Nat.blt_eq] using h3
      · cases h
    · cases h
  · cases h

/-- That many cells may be written. -/
def WrN (h : Heap) (a : Addr) (n : Nat) : Prop := ∀ j, j < n → Wr h (a.add (0 + j))

def stF (h : Heap) (a : Addr) (vs : List Value) (K : Heap → Prop) : Prop :=
  match vs with
  | [v] => Wr h a ∧ K (setC h a v)
  | vs => WrN h a vs.length ∧ K (setCs h a 0 vs)

theorem stF_out {a : Addr} {vs : List Value} {h : Heap} {K : Heap → Prop} (H : stF h a vs K) : K (setCs h a 0 vs) ∧ ∀ n, (∀ v ∈ vs, oneC v = true) →
    (storeCells a vs 0).run P (on w₀ h n) = .ok () (on w₀ (setCs h a 0 vs) n) := by
  unfold stF at H
  split at H
  · rename_i v
    refine ⟨H.2, fun n ho => run_storeCells P w₀ a _ 0 h n (fun j hj => ?_) ho⟩
    have : j = 0 := by simpa using hj
    subst this
    exact H.1
  · exact ⟨H.2, fun n ho => run_storeCells P w₀ a _ 0 h n H.1 ho⟩

/-- A function that may be entered. -/
def callable (f : FuncId) : Bool :=
  match P.funcs[f]? with
  | some fn => fn.body.isSome && !(fn.name == "runtime.NumGoroutine")
  | none => false

theorem callable_run {f : FuncId} (h : callable P f = true) (args : Array Value) (w : World) : (callFunc f args).run P w = .ok (.enter f args) w := by
  unfold callable at h
  split at h
  · rename_i fn hf
    simp only [Bool.and_eq_true, Bool.not_eq_true'] at h
    obtain ⟨h1, h2⟩ := h
    have h3 : fn.body.isNone = false := by cases hb : fn.body <;> simp_all
    have h4 : ¬ fn.name = "runtime.NumGoroutine" := by intro e; simp [e] at h2
    have h5 : fn.body ≠ none := by intro e; simp [e] at h1
    simp [callFunc, hf, h4, h5]
  · cases h

/-- The heap behind a row that was written from p on. -/
def wrH (h : Heap) (p : Option Addr) (vs : List Value) : Heap :=
  match p with
  | some a => setCs h a 0 vs
  | none => h

/-- What an append asks: the elements are there (os, xs: their cells); where there is room, it may be written; else the whole is not too great. -/
def AppPre (h : Heap) (p : Option Addr) (n c : Nat) (q : Option Addr) (m z b : Nat) (os xs : List Value) : Prop :=
  os.length = n * z ∧ rowAt h p os ∧ xs.length = m * z ∧ rowAt h q xs ∧
  (n + m ≤ c → (∀ v ∈ xs, oneC v = true) ∧ ∀ a, p = some a → WrN h (a.add (n * z)) xs.length) ∧
  (c < n + m → Builtin.nextslicecap (n + m) c * b ≤ 2 ^ 48)

/-- What an append hands back: in place, or in a new block of whatever capacity. -/
def AppRes (h : Heap) (p : Option Addr) (n c m : Nat) (z : List Value) (e : TypeId) (os xs : List Value) (p' : Option Addr) (c' : Nat) (h' : Heap) : Prop :=
  (n + m ≤ c ∧ p' = p ∧ c' = c ∧ h' = wrH h (p.map (·.add (n * z.length))) xs) ∨
  (c < n + m ∧ n + m ≤ c' ∧ p' = some ⟨h.size, 0, none⟩ ∧ h' = h.push (.cells (os ++ xs ++ zrow z (c' - (n + m))).toArray e))

/-- append(s, x...) of two slices. -/
def appF (t : TypeId) (s x : Value) (h : Heap) (K : Value → Heap → Prop) : Prop :=
  match elemZ P t with
  | some (e, z, b) => match s, x with
    | .slice p n c, .slice q m _ => ∃ os xs : List Value, AppPre h p n c q m z.length b os xs ∧
        ∀ (p' : Option Addr) (c' : Nat) (h' : Heap), AppRes h p n c m z e os xs p' c' h' → K (.slice p' (n + m) c') h'
    | _, _ => False
  | none => False

def AppZPre (h : Heap) (p : Option Addr) (n c : Nat) (m : Int) (z : List Value) (b : Nat) (os : List Value) : Prop :=
  os.length = n * z.length ∧ rowAt h p os ∧ 0 < m ∧ m * b ≤ 2 ^ 48 ∧ (∀ v ∈ z, oneC v = true) ∧
  (n + m.toNat ≤ c → ∀ a, p = some a → WrN h (a.add (n * z.length)) (m.toNat * z.length)) ∧
  (c < n + m.toNat → n + m.toNat < 2 ^ 63 ∧ Builtin.nextslicecap (n + m.toNat) c * b ≤ 2 ^ 48)

/-- append(s, make([]T, n)...). -/
def appZF (t : TypeId) (s x : Value) (h : Heap) (K : Value → Heap → Prop) : Prop :=
  match elemZ P t with
  | some (e, z, b) => match s, x with
    | .slice p n c, .int _ m => ∃ os : List Value, AppZPre h p n c m z b os ∧
        ∀ (p' : Option Addr) (c' : Nat) (h' : Heap), AppRes h p n c m.toNat z e os (zrow z m.toNat) p' c' h' → K (.slice p' (n + m.toNat) c') h'
    | _, _ => False
  | none => False

def CopyPre (h : Heap) (p : Option Addr) (n : Nat) (q : Option Addr) (m z : Nat) (xs : List Value) : Prop :=
  xs.length = Nat.min m n * z ∧ rowAt h q xs ∧ (∀ v ∈ xs, oneC v = true) ∧ ∀ a, p = some a → WrN h a xs.length

def copyF (t : TypeId) (d x : Value) (h : Heap) (K : Value → Heap → Prop) : Prop :=
  match elemZ P t with
  | some (_, z, _) => match d, x with
    | .slice p n _, .slice q m _ => ∃ xs : List Value, CopyPre h p n q m z.length xs ∧ K (.int .i64 (Nat.min m n : Nat)) (wrH h p xs)
    | _, _ => False
  | none => False

def ClearPre (h : Heap) (p : Option Addr) (n : Nat) (z : List Value) : Prop :=
  (∀ v ∈ z, oneC v = true) ∧ (p = none → n = 0) ∧ ∀ a, p = some a → WrN h a (n * z.length)

def clearF (t : TypeId) (x : Value) (h : Heap) (K : Value → Heap → Prop) : Prop :=
  match elemZ P t with
  | some (_, z, _) => match x with
    | .slice p n _ => ClearPre h p n z ∧ K (.tuple #[]) (wrH h p (zrow z n))
    | _ => False
  | none => False

def oneCs (l : List Value) : Bool := l.all oneC

/-- The kind of a type's values. -/
def kdT (t : TypeId) : Option Kd :=
  match P.info? t with
  | some i => match i.zero with
    | some z => some (kdZ z)
    | none => none
  | none => none

/-- A round of a range over a function, over heaps: a call of its yield. -/
def RoundE (P : Program) (w₀ : World) (l : Nat) (args : Array Value) (h : Heap) (R : Ending → Heap → Prop) : Prop :=
  ∀ n, ∃ (f : FuncId) (tmps : Array Value) (assign body : Code), (Instr.yield l args).run P (on w₀ h n) = .ok (.round l f tmps assign body) (on w₀ h n) ∧
    RoundIn (Fr none) 0 P l f tmps assign body (on w₀ h n) fun e w' => ∃ h' n', w' = on w₀ h' n' ∧ R e h'

/-- A call of a function's value. -/
def CallF (P : Program) (w₀ : World) (v : Value) (args : List Value) (h : Heap) (R : Ending → Heap → Prop) : Prop :=
  match v with
  | .func (.func g) fs cs => bif callable P g then CallsE P w₀ g (fs.toList ++ args ++ cs.toList).toArray h R else False
  | .func (.yield l) fs _ => RoundE P w₀ l (fs ++ args.toArray) h R
  | _ => False

theorem RoundE.mono {P : Program} {w₀ : World} {l : Nat} {args : Array Value} {h : Heap} {R R' : Ending → Heap → Prop} (H : RoundE P w₀ l args h R) (hr : ∀ e h, R e h → R' e h) : RoundE P w₀ l args h R' :=
  fun n => let ⟨f, t, x, y, h1, h2⟩ := H n; ⟨f, t, x, y, h1, h2.mono fun _ _ ⟨h', n', e, q⟩ => ⟨h', n', e, hr _ _ q⟩⟩

theorem CallF.mono {P : Program} {w₀ : World} {v : Value} {args : List Value} {h : Heap} {R R' : Ending → Heap → Prop} (H : CallF P w₀ v args h R) (hr : ∀ e h, R e h → R' e h) : CallF P w₀ v args h R' := by
  unfold CallF at *
  split at H
  · rename_i g fs cs
    cases hc : callable P g <;> rw [hc] at H
    · exact H.elim
    · exact CallsE.mono H hr
  · exact RoundE.mono H hr
  · exact H.elim

/-- An operation that is not quiet. -/
def cF (op : Op) (ty : TypeId) (E : Env) (h : Heap) (K : Value → Heap → Prop) (QP : List PanicEntry → Heap → Prop) : Prop :=
  match op with
  | .alloc t => match P.info? t with
    | some i => match i.zero with
      | some z => K (.pointer (some ⟨h.size, 0, none⟩)) (h.push (.cells z.cells t))
      | none => False
    | none => False
  | .box t x => match val E x with
    | some v => K (.pointer (some ⟨h.size, 0, none⟩)) (h.push (.cells v.cells t))
    | none => False
  | .makeSlice t l c => match elemZ P t with
    | some (e, z, b) => match val E l, val E c with
      | some (.int _ l), some (.int _ c) => 0 ≤ l ∧ l ≤ c ∧ c * b ≤ 2 ^ 48 ∧ K (.slice (some ⟨h.size, 0, none⟩) l.toNat c.toNat) (h.push (.cells (zrow z c.toNat).toArray e))
      | _, _ => False
    | none => False
  | .buildSlice t len parts => match elemZ P t with
    | some (e, z, _) => match vals2 E parts.toList with
      | some ps => bif Nat.ble (len * z.length) (2 ^ 24) then
          match Instr.fill (fun i => some (i * z.length, z.length)) (zrow z len).toArray ps with
          | some cs => K (.slice (some ⟨h.size, 0, none⟩) len len) (h.push (.cells cs e))
          | none => False
        else False
      | none => False
    | none => False
  | .store t a x => match val E a, val E x with
    | some (.pointer (some a)), some v => match P.info? t with
      | some i => bif Nat.beq v.cells.toList.length i.size && oneCs v.cells.toList then stF h a v.cells.toList fun h' => K undef h' else False
      | none => False
    | _, _ => False
  | .call { callee := .builtin .append, args, argTypes } => match vals E args.toList, argTypes.toList with
    | some [s, x], [t, u] => match P.underlying u with
      | some (.int _) => appZF P t s x h K
      | some (.slice _) => appF P t s x h K
      | _ => False
    | _, _ => False
  | .call { callee := .builtin .copy, args, argTypes } => match vals E args.toList, argTypes.toList with
    | some [d, x], t :: _ => copyF P t d x h K
    | _, _ => False
  | .call { callee := .builtin .clear, args, argTypes } => match vals E args.toList, argTypes.toList with
    | some [x], [t] => clearF P t x h K
    | _, _ => False
  | .call { callee := .value f, args, .. } => match val E f, vals E args.toList with
    | some fv, some vs => match kdT P ty with
      | some k => CallF P w₀ fv vs h (callPost (fun v h' => ExV k fun u => v = u ∧ K u h') QP)
      | none => False
    | _, _ => False
  | .panic x => match val E x with
    | some (.iface t v) => QP [{ v := .iface t v, recovered := false }] h
    | _ => False
  | _ => False

variable {P} {w₀}

theorem stp_value {r : Option Nat} {ops : Array Oper} {Q : Exit → Act → Heap → Prop} {i : Nat} {o : Oper} {a : Act} {h : Heap} {K : Value → Heap → Prop} (hi : ops[i]? = some o)
    (hw : Region.wanted o (yielded ops a.tmps) = true) (hd : ∀ c, o.op ≠ .defer c) {v : Value} {h' : Heap} (hr : ∀ n, ∃ n', (execOp a.eval o).run P (on w₀ h n) = .ok (.value v) (on w₀ h' n')) (hK : K v h') :
    stp r P w₀ ops Q i (fun a' h' => ∃ v, a' = a.put o.dst v ∧ K v h') a h := by
  intro n
  unfold wpOpIn
  simp only [hi, hw, if_true]
  refine ⟨fun _ _ => trivial, ?_⟩
  obtain ⟨n', hn⟩ := hr n
  rw [Oper.semAt_eq _ _ _ hd, hn]
  exact ⟨h', n', rfl, v, rfl, hK⟩

theorem run_push (w : World) (h : Heap) (n : Nat) (o : Obj) : { on w h n with heap := (on w h n).heap.push o } = on w (h.push o) n := rfl

theorem fill_eq {f g : Nat → Option (Nat × Nat)} (h : f = g) (c : Array Value) (l : List (Nat × Value)) : Instr.fill f c l = Instr.fill g c l := by rw [h]

theorem cF_sound {r : Option Nat} {ops : Array Oper} {Q : Exit → Act → Heap → Prop} {i : Nat} {o : Oper} {N : Nat} {D : List Deferred} {E : Env} {a : Act} {h : Heap} {K : Value → Heap → Prop}
    {QP : List PanicEntry → Heap → Prop} (hi : ops[i]? = some o) (hw : Region.wanted o (yielded ops a.tmps) = true) (hE : Holds N D E a) (hQ : ∀ c h', QP c h' → Q (.panic c) a h')
    (H : cF P w₀ o.op o.type E h K QP) : stp r P w₀ ops Q i (fun a' h' => ∃ v, a' = a.put o.dst v ∧ K v h') a h := by
  generalize hop : o.op = op at H
  have hd : ∀ (_ : ∀ c, op ≠ .defer c), ∀ c, o.op ≠ .defer c := fun hh c => by rw [hop]; exact hh c
  unfold cF at H
  split at H
  · -- alloc
    split at H
    · rename_i inf hinf
      split at H
      · rename_i z hz
        refine stp_value hi hw (hd (by simp)) (fun n => ⟨n, ?_⟩) H
        simp only [execOp, hop]
        refine run_value P _ ?_
        simp [Instr.alloc, zeroValue, typeInfo, hinf, hz, newVar, newRow, newObj, Sem.run]
        rfl
      · exact H.elim
    · exact H.elim
  · -- box
    split at H
    · rename_i t x v hv
      refine stp_value hi hw (hd (by simp)) (fun n => ⟨n, ?_⟩) H
      simp only [execOp, hop, hE.val hv]
      refine run_value P _ ?_
      simp [Instr.box, newVar, newRow, newObj, Sem.run]
      rfl
    · exact H.elim
  · -- makeSlice
    rename_i t l c
    split at H
    · rename_i e z b hel
      obtain ⟨inf, zv, hu, hinf, hz, rfl, hsz, rfl, hb, hzl⟩ := elemZ_out P hel
      split at H
      · rename_i k1 l' k2 c' hl hc
        obtain ⟨h0, h1, h2, hK⟩ := H
        refine stp_value hi hw (hd (by simp)) (fun n => ⟨n, ?_⟩) hK
        simp only [execOp, hop, hE.val hl, hE.val hc]
        refine run_value P _ ?_
        have hc2 : c' ≤ 2 ^ 48 := by
          have : c' * 1 ≤ c' * (inf.bytes : Int) := Int.mul_le_mul_of_nonneg_left (by omega) (by omega)
          omega
        have hwl : IntKind.i64.wrap l' = l' := IntWalk.i64_in _ (by omega)
        have hwc : IntKind.i64.wrap c' = c' := IntWalk.i64_in _ (by omega)
        have hbc : ¬ ((inf.bytes : Int) * c' > 2 ^ 48) := by rw [Int.mul_comm]; omega
        have hn0 : ¬ c' < 0 := by omega
        have hl0 : ¬ l' < 0 := by omega
        have hlc : ¬ l' > c' := by omega
        have hask : ∀ (k : Nat) (w : World), (askRoom k).run P w = .ok () w := by
          intro k w; unfold askRoom; split <;> rfl
        have hsz' : inf.size = zv.cells.size := by simpa using hsz
        have hrow : ((Array.range (c'.toNat * inf.size)).map fun i => (if c'.toNat * inf.size = 0 then #[] else zv.cells)[i % (if c'.toNat * inf.size = 0 then #[] else zv.cells).size]!) = (zrow zv.cells.toList c'.toNat).toArray := by
          split
          · rename_i h0'
            have hc0 : c'.toNat = 0 := by rcases Nat.mul_eq_zero.1 h0' with h | h <;> omega
            simp [hc0, zrow]
          · rw [hsz', range_map_zrow]
        simp only [Instr.makeSlice, Sem.run_bind, run_underlying hu, Result.andThen_ok, asInt, asIntOf, Sem.run_pure, typeInfo, run_program, hinf, hwl, hwc, hn0, hbc, hl0, hlc, decide_false, Bool.or_false, Bool.false_eq_true, if_false, hask, sizeOf]
        have hnr : ∀ (cs : Array Value), (newRow e cs).run P (on w₀ h n) = .ok ⟨h.size, 0, none⟩ (on w₀ (h.push (.cells cs e)) n) := fun _ => rfl
        have hzv : (zeroValue e).run P (on w₀ h n) = .ok zv (on w₀ h n) := by simp [zeroValue, typeInfo, hinf, hz]
        by_cases h0' : c'.toNat * inf.size = 0
        · simp only [h0', if_true] at hrow ⊢
          simp only [Sem.run_bind, Sem.run_pure, Result.andThen_ok, hnr, hrow]
        · simp only [h0', if_false] at hrow ⊢
          simp only [Sem.run_bind, Sem.run_pure, Result.andThen_ok, hnr, hrow, hzv]
      · exact H.elim
    · exact H.elim
  · -- buildSlice
    rename_i t len parts
    split at H
    · rename_i e z b hel
      obtain ⟨inf, zv, hu, hinf, hz, rfl, hsz, rfl, hb, hzl⟩ := elemZ_out P hel
      split at H
      · rename_i ps hps
        cases hle : Nat.ble (len * zv.cells.toList.length) (2 ^ 24) <;> rw [hle] at H
        · exact H.elim
        simp only [cond_true] at H
        split at H
        · rename_i cs hcs
          have hle' : len * zv.cells.toList.length ≤ 2 ^ 24 := Nat.le_of_ble_eq_true hle
          have hsz' : inf.size = zv.cells.size := by simpa using hsz
          have he : (parts.map fun (i, x) => (i, a.eval x)).toList = ps := by rw [Array.toList_map]; exact hE.vals2 hps
          have hrow : ((Array.range (len * zv.cells.size)).map fun i => (if len * zv.cells.size = 0 then #[] else zv.cells)[i % (if len * zv.cells.size = 0 then #[] else zv.cells).size]!) = (zrow zv.cells.toList len).toArray := by
            split
            · rename_i h0'
              have hc0 : len = 0 := by
                rcases Nat.mul_eq_zero.1 h0' with h | h
                · exact h
                · simp at hzl; omega
              simp [hc0, zrow]
            · rw [range_map_zrow]
          refine stp_value hi hw (hd (by simp)) (fun n => ⟨n, ?_⟩) H
          simp only [execOp, hop]
          refine run_value P _ ?_
          have hnr : ∀ (cs : Array Value), (newRow e cs).run P (on w₀ h n) = .ok ⟨h.size, 0, none⟩ (on w₀ (h.push (.cells cs e)) n) := fun _ => rfl
          have hzv : (zeroValue e).run P (on w₀ h n) = .ok zv (on w₀ h n) := by simp [zeroValue, typeInfo, hinf, hz]
          have hzl' : zv.cells.toList.length = zv.cells.size := by simp
          have hng : ¬ (len * zv.cells.size > 2 ^ 24) := by rw [← hzl']; omega
          have he2 : (parts.map (fun x => (x.fst, a.eval x.snd))).toList = ps := he
          rw [hzl'] at hcs
          by_cases h0' : len * zv.cells.size = 0
          · simp only [h0', if_true] at hrow
            simp only [Instr.buildSlice, Sem.run_bind, run_underlying hu, Result.andThen_ok, sizeOf, typeInfo, run_program, hinf, Sem.run_pure, hsz', hng, if_false, h0', if_true, hrow, he2, hcs, hnr, show ¬ (0 > 2 ^ 24) by omega]
          · simp only [h0', if_false] at hrow
            simp only [Instr.buildSlice, Sem.run_bind, run_underlying hu, Result.andThen_ok, sizeOf, typeInfo, run_program, hinf, Sem.run_pure, hsz', hng, if_false, h0', hrow, he2, hcs, hnr, hzv]
        · exact H.elim
      · exact H.elim
    · exact H.elim
  · -- store
    rename_i t x y
    split at H
    · rename_i ad v hx hy
      split at H
      · rename_i inf hinf
        cases hb : (Nat.beq v.cells.toList.length inf.size && oneCs v.cells.toList) <;> rw [hb] at H
        · exact H.elim
        simp only [Bool.and_eq_true] at hb
        obtain ⟨hsz, hone⟩ := hb
        have hsz := Nat.eq_of_beq_eq_true hsz
        obtain ⟨hK, hr⟩ := stF_out P w₀ H
        have hr := fun n => hr n (fun u hu => List.all_eq_true.1 hone u hu)
        intro n
        unfold wpOpIn
        simp only [hi, hw, if_true]
        refine ⟨fun _ _ => trivial, ?_⟩
        rw [Oper.semAt_eq _ _ _ (hd (by simp))]
        have hsz' : v.cells.size = inf.size := by simpa using hsz
        have : (execOp a.eval o).run P (on w₀ h n) = .ok .skip (on w₀ (setCs h ad 0 v.cells.toList) n) := by
          simp only [execOp, hop, hE.val hx, hE.val hy, Instr.storeAt, Instr.sureAddr, storeVar, Sem.run_bind, Sem.run_pure, Result.andThen_ok, sizeOf, typeInfo, run_program, hinf, hsz', ne_eq, not_true, if_false, hr n]
        rw [this]
        exact ⟨_, n, rfl, _, rfl, hK⟩
      · exact H.elim
    · exact H.elim
  · -- append
    rename_i args ats
    split at H
    · rename_i s x t u hv hat
      have hargs : args.map a.eval = #[s, x] := by apply Array.toList_inj.1; rw [Array.toList_map]; simpa using hE.vals hv
      have hats : ats = #[t, u] := by apply Array.toList_inj.1; simpa using hat
      have e1 : ∀ w : World, (execOp a.eval o).run P w = (do pure (Next.value (← Builtin.append_ #[t, u] o.type #[s, x])) : Sem Next).run P w := by
        intro w
        rw [← hargs, ← hats]
        simp only [execOp, hop]
        rfl
      have hask : ∀ (k : Nat) (w : World), (askRoom k).run P w = .ok () w := by
        intro k w; unfold askRoom; split <;> rfl
      have hch : ∀ (q : Question) (h : Heap) (nn : Nat), q.forced = false → (choose q).run P (on w₀ h nn) = .ok (q.cut ((on w₀ h nn).tape nn q)) (on w₀ h (nn + 1)) := by
        intro q h nn hq
        simp only [choose, Sem.run, hq, Bool.false_eq_true, if_false]
        rfl
      split at H
      · rename_i k hku
        unfold appZF at H
        split at H
        · rename_i e z b hel
          obtain ⟨inf, zv, hu, hinf, hz, rfl, hsz, rfl, hb, hzl⟩ := elemZ_out P hel
          split at H
          · rename_i p n c q m
            obtain ⟨os, ⟨hol, hor, hmp, hmb, hone, hwr, hout⟩, hK⟩ := H
            have hm0 : 0 ≤ m := by omega
            have hL : zv.cells.toList.length = zv.cells.size := by simp
            rw [hL] at hsz hol hwr hzl
            obtain ⟨M, rfl⟩ := Int.eq_ofNat_of_zero_le hm0
            simp only [Int.toNat_natCast] at hwr hout hK
            unfold AppRes at hK
            rw [hL] at hK
            have hm2 : (M : Int) ≤ 2 ^ 48 := by
              have : (M : Int) * 1 ≤ M * (inf.bytes : Int) := Int.mul_le_mul_of_nonneg_left (by omega) hm0
              omega
            have hwm : IntKind.i64.wrap (M : Int) = M := IntWalk.i64_in _ (by omega)
            have hzz : ∀ k, Builtin.zeroCells zv.cells k = (zrow zv.cells.toList k).toArray := fun k => range_map_zrow _ _
            have hmn : ¬ (M : Int) < 0 := by omega
            have hmb' : ¬ (281474976710656 < (M : Int) * (inf.bytes : Int)) := by omega
            have hzr : zrow zv.cells.toList 0 = [] := rfl
            have hzs : zv.cells.size ≠ 0 := by omega
            have h0' : M ≠ 0 := by omega
            have hms : M * zv.cells.size ≠ 0 := Nat.mul_ne_zero h0' hzs
            by_cases hle : n + M ≤ c
            · refine stp_value hi hw (hd (by simp)) (fun nn => ⟨nn, ?_⟩) (hK p c _ (.inl ⟨hle, rfl, rfl, rfl⟩))
              rw [e1]
              refine run_value P _ ?_
              have hone' : ∀ v ∈ zrow zv.cells.toList M, oneC v = true := by
                intro v hv
                obtain ⟨l, hl, hvl⟩ := List.mem_flatten.1 hv
                rw [(List.mem_replicate.1 hl).2] at hvl
                exact hone v hvl
              cases p with
              | none =>
                simp [Builtin.append_, run_underlying hu, run_underlying hku, sizeOf, typeInfo, hinf, hsz, asInt, asIntOf, hwm, hmn, hmb', hle, h0', hzs, hms, zeroValue, hz, wrH]
              | some ad =>
                have hst := run_storeCells P w₀ (ad.add (n * zv.cells.size)) (zrow zv.cells.toList M) 0 h nn (fun j hj => hwr hle ad rfl j (by rw [zrow_length, hL] at hj; exact hj)) hone'
                simp [Builtin.append_, run_underlying hu, run_underlying hku, sizeOf, typeInfo, hinf, hsz, asInt, asIntOf, hwm, hmn, hmb', hle, h0', hzs, hms, zeroValue, hz, hzz, hst, wrH]
            · obtain ⟨h63, hcap⟩ := hout (by omega)
              intro nn
              have hq : (Question.appendCap (n + M) c e).forced = false := rfl
              have hcut : n + M ≤ (Question.appendCap (n + M) c e).cut ((on w₀ h nn).tape (on w₀ h nn).drawn (Question.appendCap (n + M) c e)) := Nat.le_add_right _ _
              obtain ⟨k, hk⟩ : ∃ k, (Question.appendCap (n + M) c e).cut ((on w₀ h nn).tape (on w₀ h nn).drawn (Question.appendCap (n + M) c e)) = k := ⟨_, rfl⟩
              rw [hk] at hcut
              have hdr : (on w₀ h nn).drew = on w₀ h (nn + 1) := rfl
              have hK := hK _ k _ (.inr ⟨by omega, hcut, rfl, rfl⟩)
              unfold wpOpIn
              simp only [hi, hw, if_true]
              refine ⟨fun _ _ => trivial, ?_⟩
              rw [Oper.semAt_eq _ _ _ (hd (by simp)), e1]
              have hold := rowAt_first P w₀ (c := n) (c' := c) hor hol (nn + 1)
              have hcap' : ¬ (281474976710656 < Builtin.nextslicecap (n + M) c * inf.bytes) := by omega
              have hb0 : inf.bytes ≠ 0 := by omega
              have hmax : ¬ ((9223372036854775807 : Int) < (n : Int) + (M : Int)) := by omega
              have hrun : (Builtin.append_ #[t, u] o.type #[.slice p n c, .int q M]).run P (on w₀ h nn) = .ok (.slice (some ⟨h.size, 0, none⟩) (n + M) k) (on w₀ (h.push (.cells (os ++ zrow zv.cells.toList M ++ zrow zv.cells.toList (k - (n + M))).toArray e)) (nn + 1)) := by
                have hnr : ∀ (cs : Array Value), (newRow e cs).run P (on w₀ h (nn + 1)) = .ok ⟨h.size, 0, none⟩ (on w₀ (h.push (.cells cs e)) (nn + 1)) := fun _ => rfl
                simp [Builtin.append_, run_underlying hu, run_underlying hku, sizeOf, typeInfo, hinf, hsz, asInt, asIntOf, hwm, hmn, hmb', hle, h0', hzs, hms, hb0, hcap', hmax, hq, hk, hdr, hask, hold, hnr, zeroValue, hz, hzz]
              rw [run_value P _ hrun]
              exact ⟨_, nn + 1, rfl, _, rfl, hK⟩
          · exact H.elim
        · exact H.elim
      · rename_i e' hku
        unfold appF at H
        split at H
        · rename_i e z b hel
          obtain ⟨inf, zv, hu, hinf, hz, rfl, hsz, rfl, hb, hzl⟩ := elemZ_out P hel
          split at H
          · rename_i p n c q m c2
            obtain ⟨os, xs, ⟨hol, hor, hxl, hxr, hin, hout⟩, hK⟩ := H
            have hL : zv.cells.toList.length = zv.cells.size := by simp
            unfold AppRes at hK
            rw [hL] at hsz hol hxl hin hK
            have hx := fun nn => rowAt_first P w₀ (c := m) (c' := c2) hxr hxl nn
            by_cases hle : n + m ≤ c
            · obtain ⟨hone, hwr⟩ := hin hle
              refine stp_value hi hw (hd (by simp)) (fun nn => ⟨nn, ?_⟩) (hK p c _ (.inl ⟨hle, rfl, rfl, rfl⟩))
              rw [e1]
              refine run_value P _ ?_
              cases p with
              | none =>
                simp [Builtin.append_, run_underlying hu, run_underlying hku, sizeOf, typeInfo, hinf, hsz, Builtin.lenOf, hle, hx, wrH]
              | some ad =>
                have hst := run_storeCells P w₀ (ad.add (n * zv.cells.size)) xs 0 h nn (hwr ad rfl) hone
                simp [Builtin.append_, run_underlying hu, run_underlying hku, sizeOf, typeInfo, hinf, hsz, Builtin.lenOf, hle, hx, hst, wrH]
            · have hcap := hout (by omega)
              intro nn
              have hq : (Question.appendCap (n + m) c e).forced = false := rfl
              have hcut : n + m ≤ (Question.appendCap (n + m) c e).cut ((on w₀ h nn).tape (on w₀ h nn).drawn (Question.appendCap (n + m) c e)) := Nat.le_add_right _ _
              obtain ⟨k, hk⟩ : ∃ k, (Question.appendCap (n + m) c e).cut ((on w₀ h nn).tape (on w₀ h nn).drawn (Question.appendCap (n + m) c e)) = k := ⟨_, rfl⟩
              rw [hk] at hcut
              have hdr : (on w₀ h nn).drew = on w₀ h (nn + 1) := rfl
              have hK := hK _ k _ (.inr ⟨by omega, hcut, rfl, rfl⟩)
              unfold wpOpIn
              simp only [hi, hw, if_true]
              refine ⟨fun _ _ => trivial, ?_⟩
              rw [Oper.semAt_eq _ _ _ (hd (by simp)), e1]
              have hold := rowAt_first P w₀ (c := n) (c' := c) hor hol (nn + 1)
              have hzz : Builtin.zeroCells zv.cells (k - (n + m)) = (zrow zv.cells.toList (k - (n + m))).toArray := range_map_zrow _ _
              have hcap' : ¬ (281474976710656 < Builtin.nextslicecap (n + m) c * inf.bytes) := by omega
              have hb0 : inf.bytes ≠ 0 := by omega
              have hrun : (Builtin.append_ #[t, u] o.type #[.slice p n c, .slice q m c2]).run P (on w₀ h nn) = .ok (.slice (some ⟨h.size, 0, none⟩) (n + m) k) (on w₀ (h.push (.cells (os ++ xs ++ zrow zv.cells.toList (k - (n + m))).toArray e)) (nn + 1)) := by
                have hnr : ∀ (cs : Array Value), (newRow e cs).run P (on w₀ h (nn + 1)) = .ok ⟨h.size, 0, none⟩ (on w₀ (h.push (.cells cs e)) (nn + 1)) := fun _ => rfl
                have hx' := hx (nn + 1)
                clear hx
                simp [Builtin.append_, run_underlying hu, run_underlying hku, sizeOf, typeInfo, hinf, hsz, Builtin.lenOf, hle, hb0, hcap', hq, hk, hdr, hask, hold, hx', hnr, zeroValue, hz, hzz]
              rw [run_value P _ hrun]
              exact ⟨_, nn + 1, rfl, _, rfl, hK⟩
          · exact H.elim
        · exact H.elim
      · exact H.elim
    · exact H.elim
  · -- copy
    rename_i args ats
    split at H
    · rename_i d x t ts hv hat
      have hargs : args.map a.eval = #[d, x] := by apply Array.toList_inj.1; rw [Array.toList_map]; simpa using hE.vals hv
      have hats : ats = (t :: ts).toArray := by apply Array.toList_inj.1; simpa using hat
      unfold copyF at H
      split at H
      · rename_i e z b hel
        obtain ⟨inf, zv, hu, hinf, hz, rfl, hsz, rfl, hb, hzl⟩ := elemZ_out P hel
        have hL : zv.cells.toList.length = zv.cells.size := by simp
        rw [hL] at hsz H
        split at H
        · rename_i p n c q m c2
          obtain ⟨xs, ⟨hxl, hxr, hone, hwr⟩, hK⟩ := H
          have e1 : ∀ w : World, (execOp a.eval o).run P w = (do pure (Next.value (← Builtin.copy_ (t :: ts).toArray o.type #[.slice p n c, .slice q m c2])) : Sem Next).run P w := by
            intro w
            rw [← hargs, ← hats]
            simp only [execOp, hop]
            rfl
          refine stp_value hi hw (hd (by simp)) (fun nn => ⟨nn, ?_⟩) hK
          rw [e1]
          refine run_value P _ ?_
          have hx := rowAt_first P w₀ (c := m) (c' := c2) hxr hxl nn
          cases p with
          | none => simp [Builtin.copy_, run_underlying hu, sizeOf, typeInfo, hinf, hsz, Builtin.lenOf, hx, goInt, wrH]
          | some ad =>
            have hst := run_storeCells P w₀ ad xs 0 h nn (hwr ad rfl) hone
            simp [Builtin.copy_, run_underlying hu, sizeOf, typeInfo, hinf, hsz, Builtin.lenOf, hx, hst, goInt, wrH]
        · exact H.elim
      · exact H.elim
    · exact H.elim
  · -- clear
    rename_i args ats
    split at H
    · rename_i x t hv hat
      have hargs : args.map a.eval = #[x] := by apply Array.toList_inj.1; rw [Array.toList_map]; simpa using hE.vals hv
      have hats : ats = #[t] := by apply Array.toList_inj.1; simpa using hat
      unfold clearF at H
      split at H
      · rename_i e z b hel
        obtain ⟨inf, zv, hu, hinf, hz, rfl, hsz, rfl, hb, hzl⟩ := elemZ_out P hel
        have hL : zv.cells.toList.length = zv.cells.size := by simp
        split at H
        · rename_i p n c
          have e1 : ∀ w : World, (execOp a.eval o).run P w = (do pure (Next.value (← Builtin.clear_ #[t] o.type #[.slice p n c])) : Sem Next).run P w := by
            intro w
            rw [← hargs, ← hats]
            simp only [execOp, hop]
            rfl
          obtain ⟨⟨hone, hnil, hwr⟩, hK⟩ := H
          refine stp_value hi hw (hd (by simp)) (fun nn => ⟨nn, ?_⟩) hK
          rw [e1]
          refine run_value P _ ?_
          cases p with
          | none =>
            have := hnil rfl
            subst this
            simp [Builtin.clear_, run_underlying hu, wrH]
          | some ad =>
            by_cases hn0 : n = 0
            · subst hn0
              simp [Builtin.clear_, run_underlying hu, wrH, zrow, setCs]
            have hzz : ∀ k, Builtin.zeroCells zv.cells k = (zrow zv.cells.toList k).toArray := fun k => range_map_zrow _ _
            have hone' : ∀ v ∈ zrow zv.cells.toList n, oneC v = true := by
              intro v hv
              obtain ⟨l, hl, hvl⟩ := List.mem_flatten.1 hv
              rw [(List.mem_replicate.1 hl).2] at hvl
              exact hone v hvl
            have hst := run_storeCells P w₀ ad (zrow zv.cells.toList n) 0 h nn (fun j hj => hwr ad rfl j (by rw [zrow_length] at hj; exact hj)) hone'
            obtain ⟨n, rfl⟩ : ∃ m, n = m + 1 := ⟨n - 1, by omega⟩
            simp [Builtin.clear_, run_underlying hu, zeroValue, typeInfo, hinf, hz, hzz, hst, wrH]
        · exact H.elim
      · exact H.elim
    · exact H.elim
  · -- a call
    rename_i f args ats
    split at H
    · rename_i fv vs hf hv
      split at H
      case h_2 => exact H.elim
      rename_i kd hkd
      have hargs : args.map a.eval = vs.toArray := by apply Array.toList_inj.1; rw [Array.toList_map]; exact hE.vals hv
      unfold CallF at H
      split at H
      · rename_i g fs cs
        cases hcal : callable P g <;> rw [hcal] at H
        · exact H.elim
        simp only [cond_true] at H
        intro n
        unfold wpOpIn
        simp only [hi, hw, if_true]
        refine ⟨fun _ _ => trivial, ?_⟩
        rw [Oper.semAt_eq _ _ _ (hd (by simp))]
        have : (execOp a.eval o).run P (on w₀ h n) = .ok (.enter g (fs.toList ++ vs ++ cs.toList).toArray) (on w₀ h n) := by
          simp only [execOp, hop, resolve, hargs, hE.val hf, Deferred.ofValue, invoke, Sem.run_bind, Sem.run_pure, Result.andThen_ok]
          rw [callable_run P hcal]
          congr 2
          apply Array.toList_inj.1
          simp
        rw [this]
        refine ⟨fun hh => by simp [Fr] at hh, callsIn_Fr ((H n).mono ?_)⟩
        rintro e w' ⟨h', n', rfl, hR⟩
        cases e with
        | returned v =>
          obtain ⟨u, rfl, hR⟩ := ExV.out hR
          exact ⟨h', n', rfl, v, rfl, hR⟩
        | panicked c => exact ⟨h', n', rfl, hQ c h' hR⟩
        | outgrown => exact hR.elim
      · rename_i l fs cs
        intro n
        unfold wpOpIn
        simp only [hi, hw, if_true]
        refine ⟨fun _ _ => trivial, ?_⟩
        rw [Oper.semAt_eq _ _ _ (hd (by simp))]
        obtain ⟨f, tm, as, bd, hy, hR⟩ := H n
        have : (execOp a.eval o).run P (on w₀ h n) = .ok (.round l f tm as bd) (on w₀ h n) := by
          simp only [execOp, hop, resolve, hargs, hE.val hf, Deferred.ofValue, invoke, Sem.run_bind, Sem.run_pure, Result.andThen_ok]
          exact hy
        rw [this]
        refine ⟨fun hh => by simp [Fr] at hh, RoundIn.mono (show RoundIn (Fr r) 0 P l f tm as bd (on w₀ h n) _ from hR) ?_⟩
        rintro e w' ⟨h', n', rfl, hR⟩
        cases e with
        | returned v =>
          obtain ⟨u, rfl, hR⟩ := ExV.out hR
          exact ⟨h', n', rfl, v, rfl, hR⟩
        | panicked c => exact ⟨h', n', rfl, hQ c h' hR⟩
        | outgrown => exact hR.elim
      · exact H.elim
    · exact H.elim
  · -- panic
    rename_i x
    split at H
    · rename_i t v hv
      intro n
      unfold wpOpIn
      simp only [hi, hw, if_true]
      refine ⟨fun _ _ => trivial, ?_⟩
      rw [Oper.semAt_eq _ _ _ (hd (by simp))]
      have : (execOp a.eval o).run P (on w₀ h n) = .halt (.panic (.iface t v)) (on w₀ h n) := by
        simp only [execOp, hop, hE.val hv, Instr.panic, goPanic, Sem.run_bind]
        rfl
      rw [this]
      exact ⟨h, n, rfl, hQ _ _ H⟩
    · exact H.elim
  · exact H.elim
end
end Go.V
