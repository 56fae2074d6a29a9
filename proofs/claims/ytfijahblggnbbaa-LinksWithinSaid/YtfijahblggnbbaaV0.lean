/- The ground of the own layer: heaps in the place of worlds (draws are nobody's business), the rules on code over heaps, and the orders of a region. No condition. -/
import Derived.OrdersIn
import Derived.LoopNIn
import Derived.RangeFuncOwn
import Derived.RecoverIn
import Derived.TacticsIn
import Derived.KernelRfl
namespace Go.V

abbrev Heap := Array Obj

/-- The world with that heap and that many draws. -/
def on (w : World) (h : Heap) (n : Nat) : World := { w with heap := h, drawn := n }

@[simp] theorem on_heap (w : World) (h : Heap) (n : Nat) : (on w h n).heap = h := rfl
theorem on_on (w : World) (h h' : Heap) (n n' : Nat) : on (on w h n) h' n' = on w h' n' := rfl
theorem on_self (w : World) : on w w.heap w.drawn = w := rfl

/-- No fence, in a round or not. -/
def Fr (r : Option Nat) : Fence := { fn := fun _ => True, depth := none, alive := false, round := r }

theorem Fr_room (r : Option Nat) (n : Nat) : (Fr r).room n := fun d h => by simp [Fr] at h

def lft (w₀ : World) (Q : Exit → Act → Heap → Prop) : Exit → Act → World → Prop := fun e a w => ∃ h n, w = on w₀ h n ∧ Q e a h
def lfK (w₀ : World) (K : Act → Heap → Prop) : Act → World → Prop := fun a w => ∃ h n, w = on w₀ h n ∧ K a h

/-- The weakest condition of code, over heaps. -/
def WA (r : Option Nat) (P : Program) (w₀ : World) (c : Code) (Q : Exit → Act → Heap → Prop) (a : Act) (h : Heap) : Prop :=
  ∀ n, c.wpIn (Fr r) 0 P (lft w₀ Q) a (on w₀ h n)

def thenH (next : Act → Heap → Prop) (Q : Exit → Act → Heap → Prop) : Exit → Act → Heap → Prop
  | .normal, a, h => next a h
  | e, a, h => Q e a h

def inBlockH (id : Nat) (Q : Exit → Act → Heap → Prop) : Exit → Act → Heap → Prop
  | .exit id', a, h => if id' = id then Q .normal a h else Q (.exit id') a h
  | e, a, h => Q e a h

section
variable {r : Option Nat} {P : Program} {w₀ : World} {Q Q' : Exit → Act → Heap → Prop} {a : Act} {h : Heap}

theorem WA_mono {c : Code} (hq : ∀ e a h, Q e a h → Q' e a h) (H : WA r P w₀ c Q a h) : WA r P w₀ c Q' a h :=
  fun n => wpIn_mono (H n) fun _ _ _ ⟨h', n', e, q⟩ => ⟨h', n', e, hq _ _ _ q⟩

theorem WA_skip (H : Q .normal a h) : WA r P w₀ .skip Q a h := fun n => wpIn_skip ⟨h, n, rfl, H⟩
theorem WA_label {l : Nat} (H : Q .normal a h) : WA r P w₀ (.label l) Q a h := fun n => wpIn_label ⟨h, n, rfl, H⟩
theorem WA_exit {id : Nat} (H : Q (.exit id) a h) : WA r P w₀ (.exit id) Q a h := fun n => wpIn_exit ⟨h, n, rfl, H⟩
theorem WA_goto {l : Nat} (H : Q (.goto l) a h) : WA r P w₀ (.goto l) Q a h := fun n => wpIn_goto ⟨h, n, rfl, H⟩
theorem WA_ret (H : Q .ret a h) : WA r P w₀ .ret Q a h := fun n => wpIn_ret ⟨h, n, rfl, H⟩

theorem WA_seq {x y : Code} (H : WA r P w₀ x (thenH (WA r P w₀ y Q) Q) a h) : WA r P w₀ (.seq x y) Q a h := fun n => by
  refine wpIn_seq (wpIn_mono (H n) ?_)
  rintro e a' w' ⟨h', n', rfl, q⟩
  cases e <;> first | exact q n' | exact ⟨h', n', rfl, q⟩

theorem WA_cond {c : Operand} {x y : Code} {t : Bool} (hc : a.eval c = .bool t) (H : WA r P w₀ (if t then x else y) Q a h) : WA r P w₀ (.cond c x y) Q a h :=
  fun n => wpIn_cond hc (H n)

theorem WA_block {id : Nat} {c : Code} (H : WA r P w₀ c (inBlockH id Q) a h) : WA r P w₀ (.block id c) Q a h := fun n => by
  refine wpIn_block (wpIn_mono (H n) ?_)
  rintro e a' w' ⟨h', n', rfl, q⟩
  cases e with
  | exit id' =>
    simp only [Exit.inBlock, inBlockH] at *
    split <;> (rename_i hid; simp only [hid, if_true, if_false] at q; exact ⟨h', n', rfl, q⟩)
  | _ => exact ⟨h', n', rfl, q⟩

/-- A loop: whatever is closed under its round holds. -/
def LoopA (r : Option Nat) (P : Program) (w₀ : World) (c : Code) (Q : Exit → Act → Heap → Prop) (a : Act) (h : Heap) : Prop :=
  ∀ L : Act → Heap → Prop, (∀ a h, WA r P w₀ c (thenH L Q) a h → L a h) → L a h

theorem WA_loop {c : Code} (H : LoopA r P w₀ c Q a h) : WA r P w₀ (.loop c) Q a h := by
  have key := H (fun a h => ∀ (n : Nat) (b : Frame) (k : List Item) (cs : List Frame), b.roundOf = (Fr r).round → (Fr r).fn b.fn → (Fr r).room (cs.length + 1 + 0) →
      ∃ e a' w', lft w₀ Q e a' w' ∧ ArrivesIn (Machine.fenced P (Fr r)) P (lone (b.atR a (.code c :: .inLoop c :: k)) cs (on w₀ h n)) b k cs e a' w') ?_
  · intro n b k cs hro hb hr
    obtain ⟨e, a', w', hq, harr⟩ := key n b k cs hro hb hr
    exact ⟨e, a', w', hq, .of_steps (.one (fenced_calm hb hr rfl) stepR_loop) harr⟩
  · intro a h hW n b k cs hro hb hr
    obtain ⟨e, a₁, w₁, ⟨h₁, n₁, rfl, hq⟩, harr⟩ := hW n b (.inLoop c :: k) cs hro hb hr
    cases e with
    | normal =>
      obtain ⟨e₂, a₂, w₂, hq₂, harr₂⟩ := hq n₁ b k cs hro hb hr
      exact ⟨e₂, a₂, w₂, hq₂, .of_steps (StepsIn.trans harr (.one (fenced_calm hb hr rfl) stepR_inLoop)) harr₂⟩
    | exit id => exact ⟨_, a₁, _, ⟨h₁, n₁, rfl, hq⟩, .pass (x := .inLoop c) rfl (fun _ _ => .inl (by simp)) harr⟩
    | goto l => exact ⟨_, a₁, _, ⟨h₁, n₁, rfl, hq⟩, .pass (x := .inLoop c) rfl (fun _ _ => .inl (by simp)) harr⟩
    | ret => exact ⟨_, a₁, _, ⟨h₁, n₁, rfl, hq⟩, .pass (x := .inLoop c) rfl (fun _ _ => .inl (by simp)) harr⟩
    | panic ch => exact ⟨_, a₁, _, ⟨h₁, n₁, rfl, hq⟩, .pass (x := .inLoop c) rfl (fun _ _ => .inl (by simp)) harr⟩
    | outgrown => exact ⟨_, a₁, _, ⟨h₁, n₁, rfl, hq⟩, .pass (x := .inLoop c) rfl (fun _ _ => .inl (by simp)) harr⟩
end

/-- A call, over heaps. -/
def CallsE (P : Program) (w₀ : World) (f : FuncId) (args : Array Value) (h : Heap) (R : Ending → Heap → Prop) : Prop :=
  ∀ n, Calls P f args (on w₀ h n) (fun e w' => ∃ h' n', w' = on w₀ h' n' ∧ R e h')

def callPost (K : Value → Heap → Prop) (QP : List PanicEntry → Heap → Prop) : Ending → Heap → Prop
  | .returned v, h => K v h
  | .panicked c, h => QP c h
  | .outgrown, _ => False

/-- A call that returns. -/
def CallsH (P : Program) (w₀ : World) (f : FuncId) (args : Array Value) (h : Heap) (K : Value → Heap → Prop) : Prop := CallsE P w₀ f args h (callPost K fun _ _ => False)

theorem CallsE.mono {P : Program} {w₀ : World} {f : FuncId} {args : Array Value} {h : Heap} {R R' : Ending → Heap → Prop} (H : CallsE P w₀ f args h R) (hr : ∀ e h, R e h → R' e h) : CallsE P w₀ f args h R' :=
  fun n => (H n).mono fun _ _ ⟨h', n', e, q⟩ => ⟨h', n', e, hr _ _ q⟩

theorem CallsH.mono {P : Program} {w₀ : World} {f : FuncId} {args : Array Value} {h : Heap} {K K' : Value → Heap → Prop} (H : CallsH P w₀ f args h K) (hr : ∀ v h, K v h → K' v h) : CallsH P w₀ f args h K' :=
  CallsE.mono H fun e h q => by cases e <;> first | exact hr _ _ q | exact q

theorem callsIn_Fr {r : Option Nat} {n : Nat} {P : Program} {f : FuncId} {args : Array Value} {w : World} {R : Ending → World → Prop} (H : Calls P f args w R) : CallsIn (Fr r) n P f args w R := by
  have h1 : CallsIn Fence.wide n P f args w R := callsIn_wide.2 H
  exact h1

/-! ### A region's operations -/

/-- Operation number i, over heaps. -/
def stp (r : Option Nat) (P : Program) (w₀ : World) (ops : Array Oper) (Q : Exit → Act → Heap → Prop) (i : Nat) (K : Act → Heap → Prop) (a : Act) (h : Heap) : Prop :=
  ∀ n, wpOpIn (Fr r) 0 P ops (lft w₀ Q) i (lfK w₀ K) a (on w₀ h n)

theorem stp_mono {r : Option Nat} {P : Program} {w₀ : World} {ops : Array Oper} {Q : Exit → Act → Heap → Prop} {i : Nat} {K K' : Act → Heap → Prop} {a : Act} {h : Heap}
    (hk : ∀ a h, K a h → K' a h) (H : stp r P w₀ ops Q i K a h) : stp r P w₀ ops Q i K' a h :=
  fun n => wpOpIn_mono (fun _ _ ⟨h', n', e, q⟩ => ⟨h', n', e, hk _ _ q⟩) (H n)

/-- Operation by operation, in the order of a list. -/
def stps (r : Option Nat) (P : Program) (w₀ : World) (ops : Array Oper) (Q : Exit → Act → Heap → Prop) : List Nat → Act → Heap → Prop
  | [], a, h => Q .normal a h
  | i :: rest, a, h => stp r P w₀ ops Q i (stps r P w₀ ops Q rest) a h

theorem WA_region {r : Option Nat} {P : Program} {w₀ : World} {ops : Array Oper} {Q : Exit → Act → Heap → Prop} {id : Nat} {a : Act} {h : Heap}
    (H : stps r P w₀ ops Q (List.range ops.size) a h) : WA r P w₀ (.region id ops false) Q a h := by
  have key : ∀ (l : List Nat) (a : Act) (h : Heap) (n : Nat), stps r P w₀ ops Q l a h → wpOpsIn (Fr r) 0 P ops (lft w₀ Q) l a (on w₀ h n) := by
    intro l
    induction l with
    | nil => intro a h n H; exact ⟨h, n, rfl, H⟩
    | cons i rest ih =>
      intro a h n H
      rw [wpOpsIn_cons]
      exact wpOpIn_mono (fun a' w' ⟨h', n', e, q⟩ => by subst e; exact ih a' h' n' q) (H n)
  exact fun n => wpIn_region (key _ a h n H)

/-! ### Whatever order is drawn -/

abbrev LS := List (Addr × Value)
def cellAt (h : Heap) (a : Addr) : Option Value :=
  match h[a.block]? with
  | some (.cells c _ _) => if a.spot.isSome then none else c[a.off]?
  | _ => none
def Keeps (ls : LS) (h : Heap) : Prop := ∀ p ∈ ls, cellAt h p.1 = some p.2

theorem cell_on (w : World) (h : Heap) (n : Nat) (a : Addr) : (on w h n).cell? a = cellAt h a := rfl

def Yld (P : Program) (w₀ : World) (o : Oper) (a : Act) (v : Value) (h : Heap) : Prop := ∀ n, ∃ n', (execOp a.eval o).run P (on w₀ h n) = .ok (.value v) (on w₀ h n')

/-- A quiet operation: one value, wherever those cells are as told; or it is not wanted. -/
def Qt (P : Program) (w₀ : World) (ops : Array Oper) (o : Oper) (a : Act) (v : Value) (ls : LS) : Prop :=
  (Region.wanted o (yielded ops a.tmps) = true ∧ (∀ c, o.op ≠ .defer c) ∧ ∀ h, Keeps ls h → Yld P w₀ o a v h) ∨ (Region.wanted o (yielded ops a.tmps) = false ∧ v = undef)

inductive Anc (ops : Array Oper) : Nat → Nat → Prop
  | edge {j : Nat} {o : Oper} {e : Edge} (ho : ops[j]? = some o) (he : e ∈ o.after) (hb : Region.binds .any e = true) : Anc ops e.on j
  | step {i j : Nat} {o : Oper} {e : Edge} (ho : ops[j]? = some o) (he : e ∈ o.after) (hb : Region.binds .any e = true) (h : Anc ops i e.on) : Anc ops i j

def Closed (ops : Array Oper) (listed : Array Bool) : Prop :=
  ∀ (j : Nat) (o : Oper), ops[j]? = some o → listed.getD j false = true → ∀ e ∈ o.after, Region.binds .any e = true → listed.getD e.on false = true

theorem anc_listed {ops : Array Oper} {listed : Array Bool} (hc : Closed ops listed) {i j : Nat} (h : Anc ops i j) : listed.getD j false = true → listed.getD i false = true := by
  induction h with
  | edge ho he hb => exact fun hj => hc _ _ ho hj _ he hb
  | step ho he hb _ ih => exact fun hj => ih (hc _ _ ho hj _ he hb)

theorem anc_ready {ops : Array Oper} {listed : Array Bool} (hc : Closed ops listed) {i j : Nat} (hr : j ∈ Region.ready .any ops listed) (h : Anc ops i j) : listed.getD i false = true := by
  obtain ⟨_, o, ho, hall⟩ := mem_ready.1 hr
  cases h with
  | edge ho' he hb => rw [ho] at ho'; cases ho'; exact hall _ he hb
  | step ho' he hb h' => rw [ho] at ho'; cases ho'; exact anc_listed hc h' (hall _ he hb)

theorem closed_set {ops : Array Oper} {listed : Array Bool} (hc : Closed ops listed) {j : Nat} (hr : j ∈ Region.ready .any ops listed) : Closed ops (listed.setIfInBounds j true) := by
  have up : ∀ k, listed.getD k false = true → (listed.setIfInBounds j true).getD k false = true := by
    intro k hk
    by_cases hjk : j = k
    · subst hjk
      rcases Nat.lt_or_ge j listed.size with hl | hl
      · simp [hl]
      · simp [Array.getElem?_eq_none hl] at hk
    · simpa [Array.getElem?_setIfInBounds_ne hjk] using hk
  intro k o ho hk e he hb
  by_cases hjk : j = k
  · subst hjk
    obtain ⟨_, o', ho', hall⟩ := mem_ready.1 hr
    rw [ho'] at ho; cases ho
    exact up _ (hall _ he hb)
  · have : listed.getD k false = true := by simpa [Array.getElem?_setIfInBounds_ne hjk] using hk
    exact up _ (hc k o ho this e he hb)

section
variable {r : Option Nat} {P : Program} {w₀ : World} {ops : Array Oper} {Q : Exit → Act → Heap → Prop}

/-- Whatever order is picked from here on; what has been read stays as it was read, but for what comes behind it in every order. -/
def anyT (r : Option Nat) (P : Program) (w₀ : World) (ops : Array Oper) (Q : Exit → Act → Heap → Prop) : Nat → Array Bool → Act → Heap → List (Nat × LS) → Prop
  | 0, listed, a, h, _ => Region.ready .any ops listed = [] ∧ Q .normal a h
  | fuel + 1, listed, a, h, pd =>
    (Region.ready .any ops listed = [] → Q .normal a h) ∧
    ∀ i ∈ Region.ready .any ops listed, stp r P w₀ ops Q i (fun a' h' =>
      (h' = h ∨ ∀ p ∈ pd, ¬ Anc ops p.1 i → Keeps p.2 h') ∧ anyT r P w₀ ops Q fuel (listed.setIfInBounds i true) a' h' pd) a h

theorem anyT_sound : ∀ (fuel : Nat) (listed : Array Bool) (a : Act) (h : Heap) (pd : List (Nat × LS)) (n : Nat), anyT r P w₀ ops Q fuel listed a h pd →
    wpAnyIn (Fr r) 0 P .any ops (lft w₀ Q) fuel listed a (on w₀ h n)
  | 0, _, _, h, _, n, H => ⟨H.1, h, n, rfl, H.2⟩
  | fuel + 1, _, _, h, _, n, H => ⟨fun h0 => ⟨h, n, rfl, H.1 h0⟩, fun i hi => wpOpIn_mono (fun a' w' ⟨h', n', e, q⟩ => by subst e; exact anyT_sound fuel _ a' h' _ n' q.2) (H.2 i hi n)⟩

theorem stp_qt {i : Nat} {o : Oper} {a : Act} {v : Value} {ls : LS} {h : Heap} {K : Act → Heap → Prop} (hi : ops[i]? = some o) (hq : Qt P w₀ ops o a v ls) (hk : Keeps ls h) (H : K (a.put o.dst v) h) :
    stp r P w₀ ops Q i K a h := by
  intro n
  unfold wpOpIn
  simp only [hi]
  rcases hq with ⟨hw, hd, hv⟩ | ⟨hw, rfl⟩
  · simp only [hw, if_true]
    obtain ⟨n', hn⟩ := hv h hk n
    refine ⟨fun _ _ => trivial, ?_⟩
    rw [Oper.semAt_eq _ _ _ hd, hn]
    exact ⟨h, n', rfl, H⟩
  · simp only [hw, Bool.false_eq_true, if_false]
    exact ⟨fun _ _ => trivial, h, n, rfl, H⟩

theorem Qt.of_put {o oj : Oper} {a : Act} {v u : Value} {ls : LS} (hsi : ∀ cs b, o.op ≠ .select cs b) (h3 : ∀ d, oj.dst = some d → d ∉ o.looksAt ops) (hq : Qt P w₀ ops o a v ls) : Qt P w₀ ops o (a.put oj.dst u) v ls := by
  unfold Qt Yld at *
  rw [execOp_put o hsi a oj.dst u h3, wanted_put o a oj.dst u h3]
  exact hq

theorem eval_of_tmps {a b : Act} (h : a.tmps = b.tmps) : a.eval = b.eval := funext fun x => by cases x <;> simp [Act.eval, h]

theorem Qt.of_tmps {o : Oper} {a b : Act} {v : Value} {ls : LS} (h : a.tmps = b.tmps) (hq : Qt P w₀ ops o a v ls) : Qt P w₀ ops o b v ls := by
  unfold Qt Yld at *
  rw [← h, ← eval_of_tmps h]
  exact hq

/-- Operation j, whether or not another's value already lies in its slot. -/
theorem stp_put {j : Nat} {oi oj : Oper} {v : Value} (hj : ops[j]? = some oj) (hap : oi.apart ops oj = true) (hsj : ∀ cs b, oj.op ≠ .select cs b) (hdj : ∀ c, oj.op ≠ .defer c)
    (hQ : ∀ c a d v h, Q (.panic c) (Act.put a d v) h → Q (.panic c) a h) {K : Act → Heap → Prop} {a : Act} {h : Heap} (H : stp r P w₀ ops Q j K (a.put oi.dst v) h) :
    stp r P w₀ ops Q j (fun a' h' => (∃ u, a'.tmps = (a.put oj.dst u).tmps) ∧ K (a'.put oi.dst v) h') a h := by
  obtain ⟨h1, h2, h3⟩ := Oper.apart_spec hap
  intro n
  have H := H n
  unfold wpOpIn at *
  simp only [hj] at *
  rw [wanted_put oj a oi.dst v h1] at H
  split
  · rename_i hw
    simp only [hw, if_true] at H
    have H := H.2
    refine ⟨fun _ _ => trivial, ?_⟩
    rw [Oper.semAt_eq _ _ _ hdj] at H ⊢
    rw [execOp_put oj hsj a oi.dst v h1] at H
    generalize (execOp a.eval oj).run P (on w₀ h n) = res at *
    have comm : ∀ u, (a.put oi.dst v).put oj.dst u = (a.put oj.dst u).put oi.dst v := fun u => Act.put_comm a v u h2
    have fin : ∀ u w, lfK w₀ K ((a.put oi.dst v).put oj.dst u) w → lfK w₀ (fun a' h' => (∃ u, a'.tmps = (a.put oj.dst u).tmps) ∧ K (a'.put oi.dst v) h') (a.put oj.dst u) w := by
      rintro u w ⟨h', n', e, q⟩
      exact ⟨h', n', e, ⟨u, rfl⟩, by rw [← comm u]; exact q⟩
    have pan : ∀ c w, lft w₀ Q (.panic c) (a.put oi.dst v) w → lft w₀ Q (.panic c) a w := fun c w ⟨h', n', e, q⟩ => ⟨h', n', e, hQ _ _ _ _ _ q⟩
    cases res with
    | ok x w' =>
      cases x <;> simp only [Oper.uponIn] at H ⊢
      case value u => exact fin _ _ H
      case skip => exact fin _ _ H
      case defer d =>
        obtain ⟨h', n', e, q⟩ := H
        refine ⟨h', n', e, ⟨undef, by cases oj.dst <;> rfl⟩, ?_⟩
        rw [← Act.put_comm { a with defers := d :: a.defers } v undef h2, ← Act.put_defers]
        exact q
      case enter f args => exact ⟨H.1, H.2.mono fun e w'' he => by cases e <;> first | exact fin _ _ he | exact pan _ _ he | exact he⟩
      case row row args => exact ⟨H.1, H.2.mono fun _ _ he => fin _ _ he⟩
      case round l f tmps assign body => exact ⟨H.1, H.2.mono fun e w'' he => by cases e <;> first | exact fin _ _ he | exact pan _ _ he | exact he⟩
      all_goals exact H
    | halt x w' => cases x <;> simp only [Oper.uponIn] at H ⊢ <;> first | exact pan _ _ H | exact H
  · rename_i hw
    simp only [hw] at H
    obtain ⟨h', n', e, q⟩ := H.2
    exact ⟨fun _ _ => trivial, h', n', e, ⟨undef, rfl⟩, by rw [← Act.put_comm a v undef h2]; exact q⟩
/-- **A quiet operation that may come up now may be taken first.** -/
theorem anyT_first {i : Nat} {oi : Oper} {v : Value} {ls : LS} (hi : ops[i]? = some oi) (hsel : ∀ (j : Nat) (o : Oper) cs b, ops[j]? = some o → o.op ≠ .select cs b)
    (hdef : ∀ (j : Nat) (o : Oper) c, ops[j]? = some o → o.op ≠ .defer c) (hQ : ∀ c a d v h, Q (.panic c) (Act.put a d v) h → Q (.panic c) a h) :
    ∀ (fuel : Nat) (listed : Array Bool) (a : Act) (h : Heap) (pd : List (Nat × LS)), Closed ops listed →
      (∀ j oj, ops[j]? = some oj → j ≠ i → listed.getD j true = false → (∀ e ∈ oj.after, Region.binds .any e = true → e.on ≠ i) → oi.apart ops oj = true) →
      i ∈ Region.ready .any ops listed → Qt P w₀ ops oi a v ls → Keeps ls h →
      anyT r P w₀ ops Q fuel (listed.setIfInBounds i true) (a.put oi.dst v) h ((i, ls) :: pd) → anyT r P w₀ ops Q (fuel + 1) listed a h pd := by
  intro fuel
  have drop : ∀ (fuel : Nat) (listed : Array Bool) (a : Act) (h : Heap) (p : Nat × LS) (pd : List (Nat × LS)), anyT r P w₀ ops Q fuel listed a h (p :: pd) → anyT r P w₀ ops Q fuel listed a h pd := by
    intro fuel
    induction fuel with
    | zero => intro _ _ _ _ _ H; exact H
    | succ fuel ih =>
      intro listed a h p pd H
      refine ⟨H.1, fun j hj => stp_mono (fun a' h' q => ⟨?_, ih _ _ _ p pd q.2⟩) (H.2 j hj)⟩
      exact q.1.imp id fun q1 p' hp' => q1 p' (List.mem_cons_of_mem _ hp')
  have here : ∀ (fuel : Nat) (listed : Array Bool) (a : Act) (h : Heap) (pd : List (Nat × LS)), Qt P w₀ ops oi a v ls → Keeps ls h →
      anyT r P w₀ ops Q fuel (listed.setIfInBounds i true) (a.put oi.dst v) h ((i, ls) :: pd) →
      stp r P w₀ ops Q i (fun a' h' => (h' = h ∨ ∀ p ∈ pd, ¬ Anc ops p.1 i → Keeps p.2 h') ∧ anyT r P w₀ ops Q fuel (listed.setIfInBounds i true) a' h' pd) a h := by
    intro fuel listed a h pd hq hk H
    exact stp_qt hi hq hk ⟨.inl rfl, drop _ _ _ _ _ _ H⟩
  induction fuel with
  | zero =>
    intro listed a h pd _ _ hr hq hk H
    refine ⟨fun h0 => (by rw [h0] at hr; cases hr), fun j hj => ?_⟩
    by_cases hji : j = i
    · subst hji; exact here _ _ _ _ _ hq hk H
    · have := ready_mono hj hji
      rw [H.1] at this
      cases this
  | succ fuel ih =>
    intro listed a h pd hc hfree hr hq hk H
    refine ⟨fun h0 => (by rw [h0] at hr; cases hr), fun j hj => ?_⟩
    by_cases hji : j = i
    · subst hji; exact here _ _ _ _ _ hq hk H
    · have h1 := H.2 j (ready_mono hj hji)
      obtain ⟨hjun, oj, hoj, hall⟩ := mem_ready.1 hj
      have hun : listed.getD i true = false := (mem_ready.1 hr).1
      have hnot : ∀ e ∈ oj.after, Region.binds .any e = true → e.on ≠ i := fun e he hb heq => by
        have h1 := hall e he hb
        rw [heq] at h1
        rcases Nat.lt_or_ge i listed.size with h' | h'
        · simp [h'] at hun h1; rw [hun] at h1; cases h1
        · simp [Array.getElem?_eq_none h'] at h1
      have hnanc : ¬ Anc ops i j := fun hanc => by
        have h1 := anc_ready hc hj hanc
        rcases Nat.lt_or_ge i listed.size with h' | h'
        · simp [h'] at hun h1; rw [hun] at h1; cases h1
        · simp [Array.getElem?_eq_none h'] at h1
      have hap := hfree j oj hoj hji hjun hnot
      have h2 := stp_put (K := fun a' h' => (h' = h ∨ ∀ p ∈ (i, ls) :: pd, ¬ Anc ops p.1 j → Keeps p.2 h') ∧ anyT r P w₀ ops Q fuel ((listed.setIfInBounds i true).setIfInBounds j true) a' h' ((i, ls) :: pd))
        hoj hap (fun cs b => hsel j oj cs b hoj) (fun c => hdef j oj c hoj) hQ h1
      have hfree' : ∀ k ok, ops[k]? = some ok → k ≠ i → (listed.setIfInBounds j true).getD k true = false →
          (∀ e ∈ ok.after, Region.binds .any e = true → e.on ≠ i) → oi.apart ops ok = true := fun k ok hk hki hun hno => by
        refine hfree k ok hk hki ?_ hno
        by_cases hjk : j = k
        · subst hjk; exact hjun
        · rw [getD_set_ne true hjk] at hun; exact hun
      refine stp_mono (fun a' h' hh => ?_) h2
      obtain ⟨⟨u, hu⟩, hob, hT⟩ := hh
      have hk' : Keeps ls h' := by
        rcases hob with hob | hob
        · rw [hob]; exact hk
        · exact hob (i, ls) (List.mem_cons_self ..) hnanc
      have hq' : Qt P w₀ ops oi a' v ls := (Qt.of_put (u := u) (fun cs b => hsel i oi cs b hi) (Oper.apart_spec hap).2.2 hq).of_tmps hu.symm
      refine ⟨?_, ih (listed.setIfInBounds j true) a' h' pd (closed_set hc hj) hfree' (ready_mono hr (Ne.symm hji)) hq' hk' ?_⟩
      · exact hob.imp id fun q1 p' hp' => q1 p' (List.mem_cons_of_mem _ hp')
      · rw [Array.setIfInBounds_comm _ _ hji]
        exact hT

/-- Is i ahead of j in every order? As told, by bits. -/
def ancB (ancs : List Nat) (i j : Nat) : Bool := Nat.testBit (ancs.getD j 0) i

def ancOr (ancs : List Nat) (j : Nat) : List Edge → Nat
  | [] => 0
  | e :: l => bif Region.binds .any e && Nat.blt e.on j then Nat.lor (Nat.lor (2 ^ e.on) (ancs.getD e.on 0)) (ancOr ancs j l) else ancOr ancs j l

def mkAnc : List Oper → List Nat → List Nat
  | [], acc => acc
  | o :: l, acc => mkAnc l (acc ++ [ancOr acc acc.length o.after.toList])

def okAncG (ancs : List Nat) : Nat → List Oper → Bool
  | _, [] => true
  | j, o :: l => Nat.beq (ancs.getD j 0) (ancOr ancs j o.after.toList) && okAncG ancs (j + 1) l

def okAnc (ops : Array Oper) (ancs : List Nat) : Bool := okAncG ancs 0 ops.toList

theorem ancOr_bit {ancs : List Nat} {j i : Nat} : ∀ {l : List Edge}, (ancOr ancs j l).testBit i = true → ∃ e ∈ l, Region.binds .any e = true ∧ e.on < j ∧ (e.on = i ∨ ancB ancs i e.on = true)
  | [], h => by simp [ancOr] at h
  | e :: l, h => by
    simp only [ancOr] at h
    cases hc : (Region.binds .any e && Nat.blt e.on j) <;> rw [hc] at h
    · obtain ⟨e', h1, h2⟩ := ancOr_bit h
      exact ⟨e', List.mem_cons_of_mem _ h1, h2⟩
    · simp only [cond_true] at h
      simp only [Bool.and_eq_true] at hc
      have hlt : e.on < j := by simpa [Nat.blt_eq] using hc.2
      have h' : ((2 ^ e.on ||| ancs.getD e.on 0) ||| ancOr ancs j l).testBit i = true := h
      rw [Nat.testBit_or, Nat.testBit_or, Bool.or_eq_true, Bool.or_eq_true] at h'
      rcases h' with (h' | h') | h'
      · rw [Nat.testBit_two_pow] at h'
        exact ⟨e, List.mem_cons_self .., hc.1, hlt, .inl (of_decide_eq_true h')⟩
      · exact ⟨e, List.mem_cons_self .., hc.1, hlt, .inr h'⟩
      · obtain ⟨e', h1, h2⟩ := ancOr_bit h'
        exact ⟨e', List.mem_cons_of_mem _ h1, h2⟩

theorem okAncG_get {ancs : List Nat} : ∀ {l : List Oper} {j : Nat}, okAncG ancs j l = true → ∀ k o, l[k]? = some o → ancs.getD (j + k) 0 = ancOr ancs (j + k) o.after.toList
  | [], _, _, k, o, hk => by simp at hk
  | x :: l, j, h, k, o, hk => by
    simp only [okAncG, Bool.and_eq_true] at h
    cases k with
    | zero => simp at hk; subst hk; exact Nat.eq_of_beq_eq_true h.1
    | succ k =>
      have := okAncG_get h.2 k o (by simpa using hk)
      rwa [show j + 1 + k = j + (k + 1) by omega] at this

theorem ancB_sound {ops : Array Oper} {ancs : List Nat} (hok : okAnc ops ancs = true) (hs : ancs.length ≤ ops.size) : ∀ (j i : Nat), ancB ancs i j = true → Anc ops i j := by
  intro j
  induction j using Nat.strongRecOn with
  | _ j ih =>
    intro i hi
    have hj : j < ops.size := by
      rcases Nat.lt_or_ge j ancs.length with hl | hl
      · omega
      · simp [ancB, List.getD_eq_getElem?_getD, List.getElem?_eq_none hl] at hi
    have h1 := okAncG_get hok j ops[j] (by simp [hj])
    rw [Nat.zero_add] at h1
    unfold ancB at hi
    rw [h1] at hi
    obtain ⟨e, he, hb, hlt, heq⟩ := ancOr_bit hi
    rcases heq with heq | heq
    · subst heq
      exact .edge (Array.getElem?_eq_getElem hj) (by simpa using he) hb
    · exact .step (Array.getElem?_eq_getElem hj) (by simpa using he) hb (ih e.on hlt i heq)

/-- An order, where need be with a choice of what comes next. -/
inductive LT where
  | nil
  | op (i : Nat) (ch : Bool) (rest : LT)
  | alt (a b : LT)

/-- One walk, in the order that is told: quiet operations, and the others. -/
def lex (r : Option Nat) (P : Program) (w₀ : World) (ops : Array Oper) (Q : Exit → Act → Heap → Prop) (an : Nat → Nat → Bool) : LT → Act → Heap → List (Nat × LS) → Prop
  | .nil, a, h, _ => Q .normal a h
  | .op i false R, a, h, pd => ∃ o v ls, ops[i]? = some o ∧ Qt P w₀ ops o a v ls ∧ Keeps ls h ∧ lex r P w₀ ops Q an R (a.put o.dst v) h ((i, ls) :: pd)
  | .op i true R, a, h, pd => stp r P w₀ ops Q i (fun a' h' => (h' = h ∨ ∀ p ∈ pd, an p.1 i = false → Keeps p.2 h') ∧ lex r P w₀ ops Q an R a' h' pd) a h
  | .alt x y, a, h, pd => lex r P w₀ ops Q an x a h pd ∧ lex r P w₀ ops Q an y a h pd

def alts : LT → List (Nat × Bool × LT)
  | .nil => []
  | .op i ch R => [(i, ch, R)]
  | .alt x y => alts x ++ alts y

/-- Is the order sound? At a choice each that may come up is among those that are told. -/
def okR (ops : Array Oper) : Nat → LT → Array Bool → Bool
  | 0, R, listed => (match R with | .nil => true | _ => false) && (Region.ready .any ops listed).isEmpty
  | n + 1, R, listed => match alts R with
    | [] => false
    | [(i, false, R')] => (Region.ready .any ops listed).contains i && Region.free .any ops listed i && okR ops n R' (listed.setIfInBounds i true)
    | l => (l.all fun x => x.2.1 && (Region.ready .any ops listed).contains x.1 && okR ops n x.2.2 (listed.setIfInBounds x.1 true)) &&
        (Region.ready .any ops listed).all fun j => l.any fun x => Nat.beq x.1 j

def noDefer (ops : Array Oper) : Bool := ops.all fun o => match o.op with | .defer _ => false | _ => true

theorem noDefer_spec (h : noDefer ops = true) (j : Nat) (o : Oper) (c : Call) (ho : ops[j]? = some o) : o.op ≠ .defer c := by
  intro e
  have h1 := (Array.all_eq_true_iff_forall_mem.1 h) o (Array.mem_of_getElem? ho)
  simp [e] at h1

theorem lex_alts {an : Nat → Nat → Bool} : ∀ {R : LT} {a : Act} {h : Heap} {pd : List (Nat × LS)}, lex r P w₀ ops Q an R a h pd → ∀ x ∈ alts R, lex r P w₀ ops Q an (.op x.1 x.2.1 x.2.2) a h pd
  | .nil, _, _, _, _, x, hx => by simp [alts] at hx
  | .op i ch R, _, _, _, H, x, hx => by
    simp only [alts, List.mem_singleton] at hx
    subst hx
    exact H
  | .alt u v, _, _, _, H, x, hx => by
    simp only [alts, List.mem_append] at hx
    rcases hx with hx | hx
    · exact lex_alts H.1 x hx
    · exact lex_alts H.2 x hx

theorem lex_anyT {an : Nat → Nat → Bool} (hanc : ∀ i j, an i j = true → Anc ops i j) (hs : Region.noSelect ops = true) (hdf : noDefer ops = true)
    (hQ : ∀ c a d v h, Q (.panic c) (Act.put a d v) h → Q (.panic c) a h) :
    ∀ (n : Nat) (R : LT) (listed : Array Bool) (a : Act) (h : Heap) (pd : List (Nat × LS)), Closed ops listed → okR ops n R listed = true →
      lex r P w₀ ops Q an R a h pd → anyT r P w₀ ops Q n listed a h pd := by
  intro n
  induction n with
  | zero =>
    intro R listed a h pd hc hB H
    cases R <;> simp [okR] at hB
    exact ⟨hB, H⟩
  | succ n ih =>
    intro R listed a h pd hc hB H
    have HA := lex_alts H
    have chain : ∀ (i : Nat) (R' : LT), i ∈ Region.ready .any ops listed → okR ops n R' (listed.setIfInBounds i true) = true → lex r P w₀ ops Q an (.op i true R') a h pd →
        stp r P w₀ ops Q i (fun a' h' => (h' = h ∨ ∀ p ∈ pd, ¬ Anc ops p.1 i → Keeps p.2 h') ∧ anyT r P w₀ ops Q n (listed.setIfInBounds i true) a' h' pd) a h := by
      intro i R' hr hB' H'
      refine stp_mono (fun a' h' q => ⟨q.1.imp id fun q1 p hp hn => q1 p hp ?_, ih R' _ _ _ _ (closed_set hc hr) hB' q.2⟩) H'
      cases hb : an p.1 i
      · rfl
      · exact absurd (hanc _ _ hb) hn
    simp only [okR] at hB
    split at hB
    · cases hB
    · rename_i i R' hal
      simp only [Bool.and_eq_true] at hB
      obtain ⟨⟨hr, hf⟩, hB'⟩ := hB
      have hr' : i ∈ Region.ready .any ops listed := by simpa using hr
      obtain ⟨o, v, ls, ho, hq, hk, H'⟩ := HA (i, false, R') (by rw [hal]; exact List.mem_singleton.2 rfl)
      exact anyT_first ho (Region.noSelect_spec hs) (noDefer_spec hdf) hQ n listed a h pd hc (Region.free_spec ho hf) hr' hq hk (ih R' _ _ _ _ (closed_set hc hr') hB' H')
    · rename_i hne1 hne2
      simp only [Bool.and_eq_true, List.all_eq_true, List.any_eq_true] at hB
      obtain ⟨hB1, hB2⟩ := hB
      refine ⟨fun h0 => ?_, fun j hj => ?_⟩
      · cases hal : alts R with
        | nil => exact absurd hal hne1
        | cons x l =>
          have := (hB1 x (by rw [hal]; exact List.mem_cons_self ..)).1.2
          rw [h0] at this
          simp at this
      · obtain ⟨x, hx, hxj⟩ := hB2 j hj
        obtain ⟨⟨h1, h2⟩, h3⟩ := hB1 x hx
        have hxj' : x.1 = j := Nat.eq_of_beq_eq_true hxj
        have HX := HA x hx
        obtain ⟨i, ch, R'⟩ := x
        simp only at h1 hxj' h3 HX
        subst h1 hxj'
        exact chain i R' hj h3 HX

theorem WA_region_draw {id : Nat} {a : Act} {h : Heap} {ancs : List Nat} {R : LT} (hm : P.follows .mixedOrders = true)
    (hanc : okAnc ops ancs = true) (hl : ancs.length ≤ ops.size) (hs : Region.noSelect ops = true) (hdf : noDefer ops = true)
    (hQ : ∀ c a d v h, Q (.panic c) (Act.put a d v) h → Q (.panic c) a h) (hR : okR ops ops.size R (Array.replicate ops.size false) = true)
    (H : lex r P w₀ ops Q (ancB ancs) R a h []) : WA r P w₀ (.region id ops true) Q a h := by
  have hc : Closed ops (Array.replicate ops.size false) := by
    intro j o ho hj
    have hjs : j < ops.size := (Array.getElem?_eq_some_iff.1 ho).1
    simp [hjs] at hj
  have hT := lex_anyT (fun i j => ancB_sound hanc hl j i) hs hdf hQ _ R _ a h [] hc hR H
  exact fun n => wpIn_region_any hm (anyT_sound _ _ _ _ _ (n + 1) hT)

def rowOf : LT → Option (List Nat)
  | .nil => some []
  | .op i _ R => (rowOf R).map (i :: ·)
  | .alt _ _ => none

theorem lex_stps {an : Nat → Nat → Bool} : ∀ (R : LT) (l : List Nat) (a : Act) (h : Heap) (pd : List (Nat × LS)), rowOf R = some l → lex r P w₀ ops Q an R a h pd → stps r P w₀ ops Q l a h
  | .nil, l, _, _, _, hl, H => by
    simp only [rowOf] at hl
    cases hl
    exact H
  | .op i ch R, l, a, h, pd, hl, H => by
    simp only [rowOf] at hl
    cases hR : rowOf R with
    | none => simp [hR] at hl
    | some l' =>
      rw [hR] at hl
      cases hl
      cases ch
      · obtain ⟨o, v, ls, ho, hq, hk, H⟩ := H
        exact stp_qt ho hq hk (lex_stps R l' _ _ _ hR H)
      · exact stp_mono (fun a' h' q => lex_stps R l' _ _ _ hR q.2) H
  | .alt _ _, l, _, _, _, hl, _ => by simp [rowOf] at hl

theorem WA_region_plain {id : Nat} {a : Act} {h : Heap} {an : Nat → Nat → Bool} {R : LT} (hR : rowOf R = some (List.range ops.size))
    (H : lex r P w₀ ops Q an R a h []) : WA r P w₀ (.region id ops false) Q a h :=
  WA_region (lex_stps R _ a h [] hR H)
end

end Go.V
