/- A region's condition, in an order that is told, and that it is enough. No condition. -/
import Derived.Test.YtfijahblggnbbaaV4
namespace Go.V

/-- A region's order: quiet operations, the others (with the reads that must stay as they were read), and what stands behind a guard. -/
inductive RI where
  | done
  | q (i : Nat) (rest : RI)
  | c (i : Nat) (obl : List Nat) (rest : RI)
  | g (j : Nat) (want : Bool) (body : RI) (p : Nat) (rest : RI)
  | gd (j : Nat) (want : Bool) (body : RI) (p : Nat) (rest : RI)
  | alt (x y : RI)

def lin : RI → LT → LT
  | .done, k => k
  | .q i rest, k => .op i false (lin rest k)
  | .c i _ rest, k => .op i true (lin rest k)
  | .g _ _ body p rest, k => lin body (.op p false (lin rest k))
  | .gd _ _ body p rest, k => lin body (.op p false (lin rest k))
  | .alt x y, k => .alt (lin x k) (lin y k)

def dstOf (ops : Array Oper) (i : Nat) : List Nat :=
  match ops.toList[i]? with
  | some o => match o.dst with | some d => [d] | none => []
  | none => []

def dsts (ops : Array Oper) : RI → List Nat
  | .done => []
  | .q i rest => dstOf ops i ++ dsts ops rest
  | .c i _ rest => dstOf ops i ++ dsts ops rest
  | .g _ _ body p rest => dsts ops body ++ (dstOf ops p ++ dsts ops rest)
  | .gd _ _ body p rest => dsts ops body ++ (dstOf ops p ++ dsts ops rest)
  | .alt x y => dsts ops x ++ dsts ops y

def loads : RI → List Nat
  | .done => []
  | .q i rest => i :: loads rest
  | .c _ _ rest => loads rest
  | .g _ _ body _ rest => loads body ++ loads rest
  | .gd _ _ body _ rest => loads body ++ loads rest
  | .alt x y => loads x ++ loads y

def memN (x : Nat) : List Nat → Bool
  | [] => false
  | y :: l => bif Nat.beq x y then true else memN x l

theorem memN_iff {x : Nat} : ∀ {l : List Nat}, memN x l = true ↔ x ∈ l
  | [] => by simp [memN]
  | y :: l => by
    simp only [memN, List.mem_cons]
    cases hb : Nat.beq x y
    · have : x ≠ y := fun e => by subst e; simp at hb
      simp [memN_iff, this]
    · simp [Nat.eq_of_beq_eq_true hb]

theorem memN_false {x : Nat} {l : List Nat} (h : memN x l = false) : x ∉ l := fun hm => by rw [memN_iff.2 hm] at h; cases h

def dropE (ds : List Nat) : Env → Env
  | [] => []
  | (t, v) :: r => bif memN t ds then dropE ds r else (t, v) :: dropE ds r

theorem get_dropE {ds : List Nat} {t : Nat} {v : Value} : ∀ {E : Env}, get (dropE ds E) t = some v → get E t = some v ∧ t ∉ ds
  | [], h => by simp [dropE, get] at h
  | (s, u) :: r, h => by
    simp only [dropE] at h
    cases hm : memN s ds <;> rw [hm] at h
    · simp only [cond_false, get] at h ⊢
      cases hb : Nat.beq s t <;> rw [hb] at h
      · exact get_dropE h
      · have : s = t := Nat.eq_of_beq_eq_true hb
        subst this
        exact ⟨h, memN_false hm⟩
    · simp only [cond_true] at h
      obtain ⟨h1, h2⟩ := get_dropE h
      refine ⟨?_, h2⟩
      simp only [get]
      cases hb : Nat.beq s t
      · exact h1
      · have : s = t := Nat.eq_of_beq_eq_true hb
        subst this
        exact absurd (memN_iff.1 hm) h2

def dOk (N : Nat) : Option Nat → Bool
  | some d => Nat.blt d N
  | none => true

def eqG : Option (Nat × Bool) → Option (Nat × Bool) → Bool
  | none, none => true
  | some (i, a), some (j, b) => Nat.beq i j && (a == b)
  | _, _ => false

theorem eqG_eq : ∀ {x y : Option (Nat × Bool)}, eqG x y = true → x = y
  | none, none, _ => rfl
  | some (i, a), some (j, b), h => by
    simp only [eqG, Bool.and_eq_true] at h
    rw [Nat.eq_of_beq_eq_true h.1, eq_of_beq h.2]
  | none, some _, h => by simp [eqG] at h
  | some _, none, h => by simp [eqG] at h

def slotOf (ops : Array Oper) (j : Nat) : Option Nat :=
  match ops.toList[j]? with
  | some o => o.dst
  | none => none

/-- Is the order's form sound: guards, slots? cur: the guard that stands; gs: the slots that guards look at; dn: what has been listed since the outermost guard; ex: is there one? -/
def okI (ops : Array Oper) (N : Nat) : (cur : Option (Nat × Bool)) → (gs : List Nat) → (dn : List Nat) → RI → Bool
  | _, _, _, .done => true
  | cur, gs, dn, .q i rest => match ops.toList[i]? with
    | some o => eqG o.guard cur && dOk N o.dst && (dstOf ops i).all (fun d => !memN d gs) && okI ops N cur gs (i :: dn) rest
    | none => false
  | cur, gs, dn, .c i _ rest => match ops.toList[i]? with
    | some o => eqG o.guard cur && dOk N o.dst && (dstOf ops i).all (fun d => !memN d gs) && okI ops N cur gs (i :: dn) rest
    | none => false
  | cur, gs, dn, .g j want body p rest => match ops.toList[p]?, slotOf ops j with
    | some o, some sj => eqG o.guard cur && dOk N o.dst && (dstOf ops p).all (fun d => !memN d gs) && (match cur with | some _ => memN j dn | none => true) &&
        okI ops N (some (j, want)) (sj :: gs) [] body && okI ops N cur gs (p :: dn) rest
    | _, _ => false
  | cur, gs, dn, .gd j want body p rest => match ops.toList[p]?, slotOf ops j with
    | some o, some sj => eqG o.guard cur && dOk N o.dst && (dstOf ops p).all (fun d => !memN d gs) && (match cur with | some _ => memN j dn | none => true) &&
        okI ops N (some (j, want)) (sj :: gs) [] body && okI ops N cur gs (p :: dn) rest
    | _, _ => false
  | cur, gs, dn, .alt x y => (match cur with | none => true | some _ => false) && okI ops N cur gs dn x && okI ops N cur gs dn y

/-- Does each operation that is not quiet keep what it must? -/
def okO (an : Nat → Nat → Bool) : RI → (seen lost : List Nat) → (List Nat → List Nat → Bool) → Bool
  | .done, seen, lost, k => k seen lost
  | .q i rest, seen, lost, k => okO an rest (i :: seen) lost k
  | .c i obl rest, seen, lost, k => seen.all (fun s => an s i || (memN s obl && !memN s lost)) && okO an rest seen lost k
  | .g _ _ body _ rest, seen, lost, k => okO an body seen lost (fun _ _ => true) && okO an rest (loads body ++ seen) (loads body ++ lost) k
  | .gd _ _ body _ rest, seen, lost, k => okO an body seen lost (fun seen' lost' => okO an rest seen' lost' k) && okO an rest seen lost k
  | .alt x y, seen, lost, k => okO an x seen lost k && okO an y seen lost k

/-- What has been read and must still be so. -/
def oblF (obl : List Nat) (h : Heap) (X : Prop) : List (Nat × LS) → Prop
  | [] => X
  | (i, ls) :: r => bif memN i obl then keepF ls h (oblF obl h X r) else oblF obl h X r
where
  keepF (ls : LS) (h : Heap) (X : Prop) : Prop := match ls with
    | [] => X
    | (a, v) :: r => cellAt h a = some v ∧ keepF r h X

theorem keepF_out {h : Heap} {X : Prop} : ∀ {ls : LS}, oblF.keepF ls h X → Keeps ls h ∧ X
  | [], H => ⟨(fun p hp => by cases hp), H⟩
  | (a, v) :: r, H => by
    obtain ⟨h1, h2⟩ := keepF_out H.2
    refine ⟨fun p hp => ?_, h2⟩
    rcases List.mem_cons.1 hp with rfl | hp
    · exact H.1
    · exact h1 p hp

theorem oblF_out {obl : List Nat} {h : Heap} {X : Prop} : ∀ {pd : List (Nat × LS)}, oblF obl h X pd → (∀ p ∈ pd, p.1 ∈ obl → Keeps p.2 h) ∧ X
  | [], H => ⟨(fun p hp => by cases hp), H⟩
  | (i, ls) :: r, H => by
    simp only [oblF] at H
    cases hm : memN i obl <;> rw [hm] at H
    · obtain ⟨h1, h2⟩ := oblF_out H
      refine ⟨fun p hp ho => ?_, h2⟩
      rcases List.mem_cons.1 hp with rfl | hp
      · exact absurd ho (memN_false hm)
      · exact h1 p hp ho
    · obtain ⟨h0, H⟩ := keepF_out H
      obtain ⟨h1, h2⟩ := oblF_out H
      refine ⟨fun p hp ho => ?_, h2⟩
      rcases List.mem_cons.1 hp with rfl | hp
      · exact h0
      · exact h1 p hp ho

section
variable (P : Program) (w₀ : World) (ops : Array Oper)

/-- **A region's condition.** -/
def vcR : RI → Env → Heap → List (Nat × LS) → (Env → Heap → List (Nat × LS) → Prop) → (List PanicEntry → Env → Heap → Prop) → Prop
  | .done, E, h, pd, K, _ => K E h pd
  | .q i rest, E, h, pd, K, QP => match ops.toList[i]? with
    | some o => qF P o.op E h fun v ls => vcR rest (putE E o.dst v) h ((i, ls) :: pd) K QP
    | none => False
  | .c i obl rest, E, h, pd, K, QP => match ops.toList[i]? with
    | some o => cF P w₀ o.op o.type E h (fun v h' => oblF obl h' (vcR rest (putE E o.dst v) h' pd K QP) pd) (fun c h' => QP c E h')
    | none => False
  | .g j want body p rest, E, h, pd, K, QP => match slotOf ops j, ops.toList[p]? with
    | some sj, some o => match o.op, o.dst with
      | .pick (.tmp sc) x y, some d => bif Nat.beq sj sc then
          match get E sj with
          | some (.bool b) => ∀ J : Bool → Heap → Prop, (∀ (r : Bool) (h' : Heap), vcR rest ((d, .bool r) :: dropE (dsts ops body) E) h' pd K QP → J r h') →
              (b = want → vcR body E h pd (fun E' h' _ => match val E' (bif want then x else y) with | some (.bool r) => J r h' | _ => False) QP) ∧
              (b = (!want) → match (bif want then y else x) with | .const (.bool r) => J r h | _ => False)
          | _ => False
        else False
      | _, _ => False
    | _, _ => False
  | .gd j want body p rest, E, h, pd, K, QP => match slotOf ops j, ops.toList[p]? with
    | some sj, some o => match o.op, o.dst with
      | .pick (.tmp sc) x y, some d => bif Nat.beq sj sc then
          match get E sj with
          | some (.bool b) =>
              (b = want → vcR body E h pd (fun E' h' pd' => match val E' (bif want then x else y) with | some (.bool r) => vcR rest ((d, .bool r) :: dropE (dsts ops body) E) h' pd' K QP | _ => False) QP) ∧
              (b = (!want) → match (bif want then y else x) with | .const (.bool r) => vcR rest ((d, .bool r) :: dropE (dsts ops body) E) h pd K QP | _ => False)
          | _ => False
        else False
      | _, _ => False
    | _, _ => False
  | .alt x y, E, h, pd, K, QP => vcR x E h pd K QP ∧ vcR y E h pd K QP
end

section
variable {r : Option Nat} {P : Program} {w₀ : World} {ops : Array Oper} {Q : Exit → Act → Heap → Prop} {an : Nat → Nat → Bool} {N : Nat} {D : List Deferred}

def Gd (ops : Array Oper) (cur : Option (Nat × Bool)) (a : Act) : Prop :=
  match cur with
  | none => True
  | some (j, w) => yielded ops a.tmps j = some w

theorem wanted_of_Gd {cur : Option (Nat × Bool)} {a : Act} {o : Oper} (hg : eqG o.guard cur = true) (h : Gd ops cur a) : Region.wanted o (yielded ops a.tmps) = true := by
  have := eqG_eq hg
  unfold Region.wanted
  rw [this]
  cases cur with
  | none => rfl
  | some jw => obtain ⟨j, w⟩ := jw; simp only [Gd] at h; simp [h]

theorem toList_get {i : Nat} {o : Oper} (h : ops.toList[i]? = some o) : ops[i]? = some o := by simpa using h

theorem yielded_slot {a : Act} {j sj : Nat} (h : slotOf ops j = some sj) : yielded ops a.tmps j = match a.tmps[sj]? with | some (.bool b) => some b | _ => none := by
  unfold slotOf at h
  split at h
  · rename_i o ho
    have ho' := toList_get ho
    unfold yielded
    simp only [ho', Option.bind_some, h]
    rfl
  · cases h

theorem Gd_same {cur : Option (Nat × Bool)} {a a' : Act} {gs : List Nat} (hs : ∀ j w, cur = some (j, w) → ∃ s, slotOf ops j = some s ∧ s ∈ gs) (hag : ∀ s ∈ gs, a'.tmps[s]? = a.tmps[s]?) (h : Gd ops cur a) : Gd ops cur a' := by
  cases cur with
  | none => trivial
  | some jw =>
    obtain ⟨j, w⟩ := jw
    obtain ⟨s, hs1, hs2⟩ := hs j w rfl
    simp only [Gd] at *
    rw [yielded_slot hs1] at h ⊢
    rw [hag s hs2]
    exact h

theorem put_other {a : Act} {d : Option Nat} {v : Value} {s : Nat} (h : ∀ t, d = some t → s ≠ t) : (a.put d v).tmps[s]? = a.tmps[s]? := by
  cases d with
  | none => rfl
  | some d => simp [Act.put, Array.getElem?_setIfInBounds_ne (Ne.symm (h d rfl))]

theorem dOk_lt {d : Option Nat} (h : dOk N d = true) : ∀ t, d = some t → t < N := by
  intro t ht
  subst ht
  simpa [dOk, Nat.blt_eq] using h

theorem dstOf_mem {i : Nat} {o : Oper} (ho : ops.toList[i]? = some o) {t : Nat} (ht : o.dst = some t) : dstOf ops i = [t] := by simp [dstOf, ho, ht]

theorem dstOf_none {i : Nat} {o : Oper} (ho : ops.toList[i]? = some o) (ht : o.dst = none) : dstOf ops i = [] := by simp [dstOf, ho, ht]

theorem not_dst {i : Nat} {o : Oper} (ho : ops.toList[i]? = some o) {s : Nat} (hs : s ∉ dstOf ops i) : ∀ t, o.dst = some t → s ≠ t := by
  intro t ht e
  rw [dstOf_mem ho ht] at hs
  exact hs (by rw [e]; exact List.mem_singleton.2 rfl)

/-- What is told of an Act-level record of reads. -/
def PD (pd : List (Nat × LS)) (seen lost : List Nat) (pdA : List (Nat × LS)) : Prop :=
  ∀ p ∈ pdA, p.2 = [] ∨ (p.1 ∈ seen ∧ (p ∈ pd ∨ p.1 ∈ lost))

theorem slotOf_get {i : Nat} {o : Oper} (ho : ops.toList[i]? = some o) : slotOf ops i = o.dst := by simp [slotOf, ho]

theorem put_und {a : Act} {d : Option Nat} (s : Nat) : (a.put d undef).tmps[s]? = a.tmps[s]? ∨ (a.put d undef).tmps[s]? = some undef := by
  cases d with
  | none => exact .inl rfl
  | some d =>
    by_cases h : d = s
    · subst h
      rcases Nat.lt_or_ge d a.tmps.size with hl | hl
      · exact .inr (by simp [Act.put, hl])
      · exact .inl (by simp only [Act.put]; rw [Array.setIfInBounds_eq_of_size_le hl])
    · exact .inl (by simp [Act.put, Array.getElem?_setIfInBounds_ne h])

theorem yielded_und {a a' : Act} {k : Nat} {x : Option Bool} (hu : ∀ s : Nat, a'.tmps[s]? = a.tmps[s]? ∨ a'.tmps[s]? = some undef) (h : yielded ops a.tmps k = x) : yielded ops a'.tmps k = x ∨ yielded ops a'.tmps k = none := by
  unfold yielded at *
  cases hk : (ops[k]?).bind (·.dst) with
  | none => exact .inr (by simp)
  | some d =>
    rw [hk] at h
    simp only [Option.bind_some] at h ⊢
    rcases hu d with hd | hd
    · rw [hd]; exact .inl h
    · rw [hd]; exact .inr rfl

theorem put_size (a : Act) (d : Option Nat) (v : Value) : (a.put d v).tmps.size = a.tmps.size := by cases d <;> simp [Act.put]
theorem put_defers' (a : Act) (d : Option Nat) (v : Value) : (a.put d v).defers = a.defers := by cases d <;> rfl

theorem yielded_self {a : Act} {k : Nat} {o : Oper} (ho : ops.toList[k]? = some o) : yielded ops (a.put o.dst undef).tmps k = none := by
  unfold yielded
  rw [toList_get ho]
  simp only [Option.bind_some]
  cases hd' : o.dst with
  | none => rfl
  | some d =>
    rcases Nat.lt_or_ge d a.tmps.size with hl | hl
    · simp [Act.put, hl, undef]
    · have : (a.put (some d) undef).tmps = a.tmps := by simp only [Act.put]; rw [Array.setIfInBounds_eq_of_size_le hl]
      simp only [Option.bind_some, this, Array.getElem?_eq_none hl]

theorem okI_dsts : ∀ {R : RI} {cur : Option (Nat × Bool)} {gs dn : List Nat}, okI ops N cur gs dn R = true → ∀ s ∈ gs, s ∉ dsts ops R
  | .done, _, _, _, _, _, _ => by simp [dsts]
  | .q i rest, cur, gs, dn, hok, s, hs => by
    simp only [okI] at hok
    split at hok
    case h_2 => cases hok
    simp only [Bool.and_eq_true, List.all_eq_true, Bool.not_eq_true'] at hok
    simp only [dsts, List.mem_append, not_or]
    exact ⟨(fun hm => by have := hok.1.2 s hm; rw [memN_iff.2 hs] at this; cases this), okI_dsts hok.2 s hs⟩
  | .c i obl rest, cur, gs, dn, hok, s, hs => by
    simp only [okI] at hok
    split at hok
    case h_2 => cases hok
    simp only [Bool.and_eq_true, List.all_eq_true, Bool.not_eq_true'] at hok
    simp only [dsts, List.mem_append, not_or]
    exact ⟨(fun hm => by have := hok.1.2 s hm; rw [memN_iff.2 hs] at this; cases this), okI_dsts hok.2 s hs⟩
  | .g j w body p rest, cur, gs, dn, hok, s, hs => by
    simp only [okI] at hok
    split at hok
    case h_2 => cases hok
    simp only [Bool.and_eq_true, List.all_eq_true, Bool.not_eq_true'] at hok
    obtain ⟨⟨⟨⟨⟨hg, hd⟩, hgd⟩, hm⟩, hbody⟩, hrest⟩ := hok
    simp only [dsts, List.mem_append, not_or]
    exact ⟨okI_dsts hbody s (List.mem_cons_of_mem _ hs), (fun hm => by have := hgd s hm; rw [memN_iff.2 hs] at this; cases this), okI_dsts hrest s hs⟩
  | .gd j w body p rest, cur, gs, dn, hok, s, hs => by
    simp only [okI] at hok
    split at hok
    case h_2 => cases hok
    simp only [Bool.and_eq_true, List.all_eq_true, Bool.not_eq_true'] at hok
    obtain ⟨⟨⟨⟨⟨hg, hd⟩, hgd⟩, hm⟩, hbody⟩, hrest⟩ := hok
    simp only [dsts, List.mem_append, not_or]
    exact ⟨okI_dsts hbody s (List.mem_cons_of_mem _ hs), (fun hm => by have := hgd s hm; rw [memN_iff.2 hs] at this; cases this), okI_dsts hrest s hs⟩
  | .alt x y, cur, gs, dn, hok, s, hs => by
    simp only [okI, Bool.and_eq_true] at hok
    simp only [dsts, List.mem_append, not_or]
    exact ⟨okI_dsts hok.1.2 s hs, okI_dsts hok.2 s hs⟩

/-- Nothing of it is wanted: all is passed over. -/
theorem skip_lex : ∀ (R : RI) (j : Nat) (w : Bool) (gs dn : List Nat) (a : Act) (h : Heap) (pdA : List (Nat × LS)) (R2 : LT),
    okI ops N (some (j, w)) gs dn R = true → yielded ops a.tmps j ≠ some w → (∀ k ∈ dn, yielded ops a.tmps k = none) →
    (∀ a' pdA', a'.tmps.size = a.tmps.size → a'.defers = a.defers → (∀ s : Nat, s ∉ dsts ops R → a'.tmps[s]? = a.tmps[s]?) → (∀ s : Nat, a'.tmps[s]? = a.tmps[s]? ∨ a'.tmps[s]? = some undef) →
      (∀ p ∈ pdA', p ∈ pdA ∨ p.2 = []) → lex r P w₀ ops Q an R2 a' h pdA') →
    lex r P w₀ ops Q an (lin R R2) a h pdA
  | .done, j, w, gs, dn, a, h, pdA, R2, _, _, _, H => H a pdA rfl rfl (fun _ _ => rfl) (fun _ => .inl rfl) (fun _ hp => .inl hp)
  | .q i rest, j, w, gs, dn, a, h, pdA, R2, hok, hy, hdn, H => by
    simp only [okI] at hok
    split at hok
    case h_2 => cases hok
    rename_i o ho
    simp only [Bool.and_eq_true] at hok
    obtain ⟨⟨⟨hg, hd⟩, hgs⟩, hrest⟩ := hok
    have hw : Region.wanted o (yielded ops a.tmps) = false := by
      unfold Region.wanted
      rw [eqG_eq hg]
      simpa using hy
    refine ⟨o, undef, [], toList_get ho, .inr ⟨hw, rfl⟩, (fun p hp => by cases hp), ?_⟩
    have hu : ∀ s : Nat, (a.put o.dst undef).tmps[s]? = a.tmps[s]? ∨ (a.put o.dst undef).tmps[s]? = some undef := fun s => put_und s
    refine skip_lex rest j w gs (i :: dn) (a.put o.dst undef) h _ R2 hrest ?_ ?_ ?_
    · rcases yielded_und hu rfl (k := j) with e | e
      · rw [e]; exact hy
      · rw [e]; simp
    · intro k hk
      rcases List.mem_cons.1 hk with rfl | hk
      · exact yielded_self ho
      · rcases yielded_und hu (hdn k hk) with e | e <;> exact e
    · intro a' pdA' h1 h2 h3 h4 h5
      refine H a' pdA' (by rw [h1, put_size]) (by rw [h2, put_defers']) (fun s hs => ?_) (fun s => ?_) (fun p hp => ?_)
      · simp only [dsts, List.mem_append, not_or] at hs
        rw [h3 s hs.2, put_other (not_dst ho hs.1)]
      · rcases h4 s with e | e
        · rw [e]; exact hu s
        · exact .inr e
      · rcases h5 p hp with e | e
        · rcases List.mem_cons.1 e with rfl | e
          · exact .inr rfl
          · exact .inl e
        · exact .inr e
  | .c i obl rest, j, w, gs, dn, a, h, pdA, R2, hok, hy, hdn, H => by
    simp only [okI] at hok
    split at hok
    case h_2 => cases hok
    rename_i o ho
    simp only [Bool.and_eq_true] at hok
    obtain ⟨⟨⟨hg, hd⟩, hgs⟩, hrest⟩ := hok
    have hw : Region.wanted o (yielded ops a.tmps) = false := by
      unfold Region.wanted
      rw [eqG_eq hg]
      simpa using hy
    have hu : ∀ s : Nat, (a.put o.dst undef).tmps[s]? = a.tmps[s]? ∨ (a.put o.dst undef).tmps[s]? = some undef := fun s => put_und s
    have key : lex r P w₀ ops Q an (lin rest R2) (a.put o.dst undef) h pdA := by
      refine skip_lex rest j w gs (i :: dn) (a.put o.dst undef) h _ R2 hrest ?_ ?_ ?_
      · rcases yielded_und hu rfl (k := j) with e | e
        · rw [e]; exact hy
        · rw [e]; simp
      · intro k hk
        rcases List.mem_cons.1 hk with rfl | hk
        · exact yielded_self ho
        · rcases yielded_und hu (hdn k hk) with e | e <;> exact e
      · intro a' pdA' h1 h2 h3 h4 h5
        refine H a' pdA' (by rw [h1, put_size]) (by rw [h2, put_defers']) (fun s hs => ?_) (fun s => ?_) h5
        · simp only [dsts, List.mem_append, not_or] at hs
          rw [h3 s hs.2, put_other (not_dst ho hs.1)]
        · rcases h4 s with e | e
          · rw [e]; exact hu s
          · exact .inr e
    intro n
    unfold wpOpIn
    simp only [toList_get ho, hw, Bool.false_eq_true, if_false]
    exact ⟨fun _ _ => trivial, h, n, rfl, .inl rfl, key⟩
  | .g j2 w2 body p rest, j, w, gs, dn, a, h, pdA, R2, hok, hy, hdn, H => by
    simp only [okI] at hok
    split at hok
    case h_2 => cases hok
    rename_i o sj ho hsj
    simp only [Bool.and_eq_true] at hok
    obtain ⟨⟨⟨⟨⟨hg, hd⟩, hgs⟩, hm⟩, hbody⟩, hrest⟩ := hok
    simp only [lin]
    have hj2 : yielded ops a.tmps j2 = none := hdn j2 (memN_iff.1 hm)
    refine skip_lex body j2 w2 (sj :: gs) [] a h pdA _ hbody (by rw [hj2]; simp) (fun k hk => by cases hk) ?_
    intro a1 pd1 g1 g2 g3 g4 g5
    have hy1 : yielded ops a1.tmps j ≠ some w := by
      rcases yielded_und g4 rfl (k := j) with e | e
      · rw [e]; exact hy
      · rw [e]; simp
    have hw : Region.wanted o (yielded ops a1.tmps) = false := by
      unfold Region.wanted
      rw [eqG_eq hg]
      simpa using hy1
    refine ⟨o, undef, [], toList_get ho, .inr ⟨hw, rfl⟩, (fun p hp => by cases hp), ?_⟩
    have hu : ∀ s : Nat, (a1.put o.dst undef).tmps[s]? = a1.tmps[s]? ∨ (a1.put o.dst undef).tmps[s]? = some undef := fun s => put_und s
    refine skip_lex rest j w gs (p :: dn) (a1.put o.dst undef) h _ R2 hrest ?_ ?_ ?_
    · rcases yielded_und hu rfl (k := j) with e | e
      · rw [e]; exact hy1
      · rw [e]; simp
    · intro k hk
      rcases List.mem_cons.1 hk with rfl | hk
      · exact yielded_self ho
      · have : yielded ops a1.tmps k = none := by rcases yielded_und g4 (hdn k hk) with e | e <;> exact e
        rcases yielded_und hu this with e | e <;> exact e
    · intro a' pdA' h1 h2 h3 h4 h5
      refine H a' pdA' (by rw [h1, put_size, g1]) (by rw [h2, put_defers', g2]) (fun s hs => ?_) (fun s => ?_) (fun p' hp => ?_)
      · simp only [dsts, List.mem_append, not_or] at hs
        rw [h3 s hs.2.2, put_other (not_dst ho hs.2.1), g3 s hs.1]
      · rcases h4 s with e | e
        · rw [e]
          rcases hu s with e | e
          · rw [e]; exact g4 s
          · exact .inr e
        · exact .inr e
      · rcases h5 p' hp with e | e
        · rcases List.mem_cons.1 e with rfl | e
          · exact .inr rfl
          · exact g5 p' e
        · exact .inr e
  | .gd j2 w2 body p rest, j, w, gs, dn, a, h, pdA, R2, hok, hy, hdn, H => by
    simp only [okI] at hok
    split at hok
    case h_2 => cases hok
    rename_i o sj ho hsj
    simp only [Bool.and_eq_true] at hok
    obtain ⟨⟨⟨⟨⟨hg, hd⟩, hgs⟩, hm⟩, hbody⟩, hrest⟩ := hok
    simp only [lin]
    have hj2 : yielded ops a.tmps j2 = none := hdn j2 (memN_iff.1 hm)
    refine skip_lex body j2 w2 (sj :: gs) [] a h pdA _ hbody (by rw [hj2]; simp) (fun k hk => by cases hk) ?_
    intro a1 pd1 g1 g2 g3 g4 g5
    have hy1 : yielded ops a1.tmps j ≠ some w := by
      rcases yielded_und g4 rfl (k := j) with e | e
      · rw [e]; exact hy
      · rw [e]; simp
    have hw : Region.wanted o (yielded ops a1.tmps) = false := by
      unfold Region.wanted
      rw [eqG_eq hg]
      simpa using hy1
    refine ⟨o, undef, [], toList_get ho, .inr ⟨hw, rfl⟩, (fun p hp => by cases hp), ?_⟩
    have hu : ∀ s : Nat, (a1.put o.dst undef).tmps[s]? = a1.tmps[s]? ∨ (a1.put o.dst undef).tmps[s]? = some undef := fun s => put_und s
    refine skip_lex rest j w gs (p :: dn) (a1.put o.dst undef) h _ R2 hrest ?_ ?_ ?_
    · rcases yielded_und hu rfl (k := j) with e | e
      · rw [e]; exact hy1
      · rw [e]; simp
    · intro k hk
      rcases List.mem_cons.1 hk with rfl | hk
      · exact yielded_self ho
      · have : yielded ops a1.tmps k = none := by rcases yielded_und g4 (hdn k hk) with e | e <;> exact e
        rcases yielded_und hu this with e | e <;> exact e
    · intro a' pdA' h1 h2 h3 h4 h5
      refine H a' pdA' (by rw [h1, put_size, g1]) (by rw [h2, put_defers', g2]) (fun s hs => ?_) (fun s => ?_) (fun p' hp => ?_)
      · simp only [dsts, List.mem_append, not_or] at hs
        rw [h3 s hs.2.2, put_other (not_dst ho hs.2.1), g3 s hs.1]
      · rcases h4 s with e | e
        · rw [e]
          rcases hu s with e | e
          · rw [e]; exact g4 s
          · exact .inr e
        · exact .inr e
      · rcases h5 p' hp with e | e
        · rcases List.mem_cons.1 e with rfl | e
          · exact .inr rfl
          · exact g5 p' e
        · exact .inr e
  | .alt x y, j, w, gs, dn, a, h, pdA, R2, hok, hy, hdn, H => by simp [okI] at hok

/-- **The condition in the told order is enough for the walk in that order.** -/
theorem vcR_lex : ∀ (R : RI) (cur : Option (Nat × Bool)) (gs dn : List Nat) (E : Env) (h : Heap) (pd : List (Nat × LS)) (K : Env → Heap → List (Nat × LS) → Prop) (QP : List PanicEntry → Env → Heap → Prop) (seen lost : List Nat)
    (kO : List Nat → List Nat → Bool) (a : Act) (pdA : List (Nat × LS)) (R2 : LT),
    okI ops N cur gs dn R = true → okO an R seen lost kO = true → vcR P w₀ ops R E h pd K QP → Holds N D E a → Gd ops cur a →
    (∀ j w, cur = some (j, w) → ∃ s, slotOf ops j = some s ∧ s ∈ gs) → PD pd seen lost pdA → (∀ c E' h' a', Holds N D E' a' → QP c E' h' → Q (.panic c) a' h') →
    (∀ E' h' pd' a' pdA' seen' lost', K E' h' pd' → Holds N D E' a' → (∀ s : Nat, s ∉ dsts ops R → a'.tmps[s]? = a.tmps[s]?) → kO seen' lost' = true → PD pd' seen' lost' pdA' →
      (∀ p ∈ pdA', p ∈ pdA ∨ p.2 = [] ∨ p.1 ∈ loads R) → lex r P w₀ ops Q an R2 a' h' pdA') →
    lex r P w₀ ops Q an (lin R R2) a h pdA
  | .done, cur, gs, dn, E, h, pd, K, QP, seen, lost, kO, a, pdA, R2, _, hob, H, hE, _, _, hPD, _, hcont => hcont E h pd a pdA seen lost H hE (fun _ _ => rfl) hob hPD (fun _ hp => .inl hp)
  | .alt x y, cur, gs, dn, E, h, pd, K, QP, seen, lost, kO, a, pdA, R2, hok, hob, H, hE, hGd, hgs, hPD, hQ, hcont => by
    simp only [okI, Bool.and_eq_true] at hok
    simp only [okO, Bool.and_eq_true] at hob
    simp only [vcR] at H
    refine ⟨?_, ?_⟩
    · exact vcR_lex x cur gs dn E h pd K QP seen lost kO a pdA R2 hok.1.2 hob.1 H.1 hE hGd hgs hPD hQ fun E' h' pd' a' pdA' seen' lost' g1 g2 g3 g4 g5 g6 =>
        hcont E' h' pd' a' pdA' seen' lost' g1 g2 (fun s hs => g3 s fun hm => hs (List.mem_append_left _ hm)) g4 g5 fun p hp => (g6 p hp).imp id fun e => e.imp id fun e => List.mem_append_left _ e
    · exact vcR_lex y cur gs dn E h pd K QP seen lost kO a pdA R2 hok.2 hob.2 H.2 hE hGd hgs hPD hQ fun E' h' pd' a' pdA' seen' lost' g1 g2 g3 g4 g5 g6 =>
        hcont E' h' pd' a' pdA' seen' lost' g1 g2 (fun s hs => g3 s fun hm => hs (List.mem_append_right _ hm)) g4 g5 fun p hp => (g6 p hp).imp id fun e => e.imp id fun e => List.mem_append_right _ e
  | .q i rest, cur, gs, dn, E, h, pd, K, QP, seen, lost, kO, a, pdA, R2, hok, hob, H, hE, hGd, hgs, hPD, hQ, hcont => by
    simp only [okI] at hok
    simp only [vcR] at H
    split at hok
    case h_2 => cases hok
    rename_i o ho
    simp only [ho] at H
    simp only [Bool.and_eq_true, List.all_eq_true, Bool.not_eq_true'] at hok
    obtain ⟨⟨⟨hg, hd⟩, hgd⟩, hrest⟩ := hok
    have hw := wanted_of_Gd hg hGd
    obtain ⟨v, ls, hK, hk, hy⟩ := qF_sound P w₀ H hE (o := o) rfl
    have hdf : ∀ c, o.op ≠ .defer c := by
      intro c e
      rw [e] at H
      simp [qF] at H
    refine ⟨o, v, ls, toList_get ho, .inl ⟨hw, hdf, hy⟩, hk, ?_⟩
    have hput : ∀ s : Nat, s ∉ dstOf ops i → (a.put o.dst v).tmps[s]? = a.tmps[s]? := fun s hs => put_other (not_dst ho hs)
    refine vcR_lex rest cur gs (i :: dn) _ h _ K QP (i :: seen) lost kO (a.put o.dst v) _ R2 hrest (by simpa [okO] using hob) hK (hE.put' (dOk_lt hd) v) ?_ hgs ?_ hQ ?_
    · exact Gd_same hgs (fun s hs => hput s fun hm => by have := hgd s hm; rw [memN_iff.2 hs] at this; cases this) hGd
    · intro p hp
      rcases List.mem_cons.1 hp with rfl | hp
      · exact .inr ⟨List.mem_cons_self .., .inl (List.mem_cons_self ..)⟩
      · rcases hPD p hp with e | ⟨e1, e2⟩
        · exact .inl e
        · exact .inr ⟨List.mem_cons_of_mem _ e1, e2.imp (List.mem_cons_of_mem _) id⟩
    · intro E' h' pd' a' pdA' seen' lost' g1 g2 g3 g4 g5 g6
      refine hcont E' h' pd' a' pdA' seen' lost' g1 g2 (fun s hs => ?_) g4 g5 (fun p hp => ?_)
      · simp only [dsts, List.mem_append, not_or] at hs
        rw [g3 s hs.2, hput s hs.1]
      · rcases g6 p hp with e | e | e
        · rcases List.mem_cons.1 e with rfl | e
          · exact .inr (.inr (List.mem_cons_self ..))
          · exact .inl e
        · exact .inr (.inl e)
        · exact .inr (.inr (List.mem_cons_of_mem _ e))
  | .c i obl rest, cur, gs, dn, E, h, pd, K, QP, seen, lost, kO, a, pdA, R2, hok, hob, H, hE, hGd, hgs, hPD, hQ, hcont => by
    simp only [okI] at hok
    simp only [vcR] at H
    split at hok
    case h_2 => cases hok
    rename_i o ho
    simp only [ho] at H
    simp only [Bool.and_eq_true, List.all_eq_true, Bool.not_eq_true'] at hok
    obtain ⟨⟨⟨hg, hd⟩, hgd⟩, hrest⟩ := hok
    simp only [okO, Bool.and_eq_true, List.all_eq_true, Bool.or_eq_true, Bool.not_eq_true'] at hob
    obtain ⟨hob1, hob2⟩ := hob
    have hw := wanted_of_Gd hg hGd
    have h1 := cF_sound (r := r) (Q := Q) (toList_get ho) hw hE (fun c h' hq => hQ c E h' a hE hq) H
    refine stp_mono ?_ h1
    rintro a' h' ⟨v, rfl, hK⟩
    obtain ⟨hkp, hK⟩ := oblF_out hK
    refine ⟨.inr fun p hp hn => ?_, ?_⟩
    · rcases hPD p hp with e | ⟨e1, e2⟩
      · rw [e]; intro q hq; cases hq
      · rcases hob1 p.1 e1 with e | ⟨e, e'⟩
        · rw [hn] at e; cases e
        · rcases e2 with e2 | e2
          · exact hkp p e2 (memN_iff.1 e)
          · exact absurd e2 (memN_false e')
    · have hput : ∀ s : Nat, s ∉ dstOf ops i → (a.put o.dst v).tmps[s]? = a.tmps[s]? := fun s hs => put_other (not_dst ho hs)
      refine vcR_lex rest cur gs (i :: dn) _ h' _ K QP seen lost kO (a.put o.dst v) _ R2 hrest hob2 hK (hE.put' (dOk_lt hd) v) ?_ hgs hPD hQ ?_
      · exact Gd_same hgs (fun s hs => hput s fun hm => by have := hgd s hm; rw [memN_iff.2 hs] at this; cases this) hGd
      · intro E' h' pd' a' pdA' seen' lost' g1 g2 g3 g4 g5 g6
        refine hcont E' h' pd' a' pdA' seen' lost' g1 g2 (fun s hs => ?_) g4 g5 g6
        simp only [dsts, List.mem_append, not_or] at hs
        rw [g3 s hs.2, hput s hs.1]
  | .g j want body p rest, cur, gs, dn, E, h, pd, K, QP, seen, lost, kO, a, pdA, R2, hok, hob, H, hE, hGd, hgs, hPD, hQ, hcont => by
    simp only [okI] at hok
    simp only [vcR] at H
    split at hok
    case h_2 => cases hok
    rename_i o sj ho hsj
    simp only [ho, hsj] at H
    simp only [Bool.and_eq_true, List.all_eq_true, Bool.not_eq_true'] at hok
    obtain ⟨⟨⟨⟨⟨hg, hd⟩, hgd⟩, hm⟩, hbody⟩, hrest⟩ := hok
    simp only [okO, Bool.and_eq_true] at hob
    obtain ⟨hob1, hob2⟩ := hob
    split at H
    case h_2 => exact H.elim
    rename_i sc x y d hop hdst
    cases hb : Nat.beq sj sc <;> rw [hb] at H
    · exact H.elim
    simp only [cond_true] at H
    have hsc : sj = sc := Nat.eq_of_beq_eq_true hb
    subst hsc
    split at H
    case h_2 => exact H.elim
    rename_i b hget
    simp only [lin]
    have hya : yielded ops a.tmps j = some b := by rw [yielded_slot hsj, hE.2.2 sj _ hget]
    have hdp : dstOf ops p = [d] := dstOf_mem ho hdst
    have hdN : d < N := dOk_lt hd d hdst
    have hdf : ∀ c, o.op ≠ .defer c := by rw [hop]; simp
    have after : ∀ (a1 : Act) (h1 : Heap) (pd1 : List (Nat × LS)) (pd2 : List (Nat × LS)) (seen1 lost1 : List Nat) (t : Bool), a1.tmps.size = N → a1.defers = D → (∀ s : Nat, s ∉ dsts ops body → a1.tmps[s]? = a.tmps[s]?) →
        (∀ q ∈ pd1, q ∈ pdA ∨ q.2 = [] ∨ q.1 ∈ loads body) → PD pd2 seen1 lost1 pd1 → okO an rest seen1 lost1 kO = true → (execOp a1.eval o = pure (.value (.bool t))) →
        vcR P w₀ ops rest ((d, .bool t) :: dropE (dsts ops body) E) h1 pd2 K QP → lex r P w₀ ops Q an (.op p false (lin rest R2)) a1 h1 pd1 := by
      intro a1 h1 pd1 pd2 seen1 lost1 t s1 s2 s3 s4 s5 s6 hex hvc
      have hE1 : Holds N D (dropE (dsts ops body) E) a1 := ⟨s1, s2, fun u v hv => by
        obtain ⟨e1, e2⟩ := get_dropE hv
        rw [s3 u e2]; exact hE.2.2 u v e1⟩
      have hG1 : Gd ops cur a1 := Gd_same hgs (fun s hs => s3 s fun hmem => okI_dsts hbody s (List.mem_cons_of_mem _ hs) hmem) hGd
      have hw := wanted_of_Gd hg hG1
      refine ⟨o, .bool t, [], toList_get ho, .inl ⟨hw, hdf, fun h' _ n => ⟨n, by rw [hex]; rfl⟩⟩, (fun q hq => by cases hq), ?_⟩
      have hput : ∀ s : Nat, s ∉ dstOf ops p → (a1.put o.dst (.bool t)).tmps[s]? = a1.tmps[s]? := fun s hs => put_other (not_dst ho hs)
      have hE2 : Holds N D ((d, .bool t) :: dropE (dsts ops body) E) (a1.put o.dst (.bool t)) := by rw [hdst]; exact hE1.put hdN _
      refine vcR_lex rest cur gs (p :: dn) _ h1 pd2 K QP seen1 lost1 kO (a1.put o.dst (.bool t)) _ R2 hrest s6 hvc hE2 ?_ hgs ?_ hQ ?_
      · exact Gd_same hgs (fun s hs => hput s fun hmm => by have := hgd s hmm; rw [memN_iff.2 hs] at this; cases this) hG1
      · intro q hq
        rcases List.mem_cons.1 hq with rfl | hq
        · exact .inl rfl
        · exact s5 q hq
      · intro E' h' pd' a' pdA' seen' lost' g1 g2 g3 g4 g5 g6
        refine hcont E' h' pd' a' pdA' seen' lost' g1 g2 (fun s hs => ?_) g4 g5 (fun q hq => ?_)
        · simp only [dsts, List.mem_append, not_or] at hs
          rw [g3 s hs.2.2, hput s hs.2.1, s3 s hs.1]
        · rcases g6 q hq with e | e | e
          · rcases List.mem_cons.1 e with rfl | e
            · exact .inr (.inl rfl)
            · rcases s4 q e with e | e | e
              · exact .inl e
              · exact .inr (.inl e)
              · exact .inr (.inr (List.mem_append_left _ e))
          · exact .inr (.inl e)
          · exact .inr (.inr (List.mem_append_right _ e))
    have Hj := H (fun t h1 => vcR P w₀ ops rest ((d, .bool t) :: dropE (dsts ops body) E) h1 pd K QP) (fun _ _ hh => hh)
    have wide : ∀ pd1 : List (Nat × LS), (∀ q ∈ pd1, q ∈ pdA ∨ q.2 = [] ∨ q.1 ∈ loads body) → PD pd (loads body ++ seen) (loads body ++ lost) pd1 := by
      intro pd1 hh q hq
      rcases hh q hq with e | e | e
      · rcases hPD q e with e | ⟨e1, e2⟩
        · exact .inl e
        · exact .inr ⟨List.mem_append_right _ e1, e2.imp id (List.mem_append_right _)⟩
      · exact .inl e
      · exact .inr ⟨List.mem_append_left _ e, .inr (List.mem_append_left _ e)⟩
    by_cases hbw : b = want
    · have Hb := Hj.1 hbw
      refine vcR_lex body (some (j, want)) (sj :: gs) [] E h pd _ QP seen lost _ a pdA _ hbody hob1 Hb hE (by simp only [Gd]; rw [hya, hbw]) (fun j' w' e => by cases e; exact ⟨sj, hsj, List.mem_cons_self ..⟩) hPD hQ ?_
      intro E' h' pd' a' pdA' seen' lost' g1 g2 g3 g4 g5 g6
      split at g1
      case h_2 => exact g1.elim
      rename_i t hv
      refine after a' h' pdA' pd (loads body ++ seen) (loads body ++ lost) t g2.1 g2.2.1 g3 g6 (wide _ g6) hob2 ?_ g1
      have hsj' : a'.eval (.tmp sj) = .bool b := by
        have : a'.tmps[sj]? = a.tmps[sj]? := g3 sj (okI_dsts hbody sj (List.mem_cons_self ..))
        simp [Act.eval, this, hE.2.2 sj _ hget]
      simp only [execOp, hop, hsj', asBool]
      rw [hbw]
      cases want
      · simp only [cond_false] at hv
        rw [← g2.val hv]; rfl
      · simp only [cond_true] at hv
        rw [← g2.val hv]; rfl
    · have Hb := Hj.2 (by revert hbw; cases b <;> cases want <;> simp)
      refine skip_lex body j want (sj :: gs) [] a h pdA _ hbody (by rw [hya]; simpa using hbw) (fun k hk => by cases hk) ?_
      intro a' pdA' g1 g2 g3 g4 g5
      split at Hb
      case h_2 => exact Hb.elim
      rename_i t hv
      refine after a' h pdA' pd (loads body ++ seen) (loads body ++ lost) t (by rw [g1]; exact hE.1) (by rw [g2]; exact hE.2.1) g3 (fun q hq => (g5 q hq).imp id .inl) (wide _ fun q hq => (g5 q hq).imp id .inl) hob2 ?_ Hb
      have hsj' : a'.eval (.tmp sj) = .bool b := by
        have : a'.tmps[sj]? = a.tmps[sj]? := g3 sj (okI_dsts hbody sj (List.mem_cons_self ..))
        simp [Act.eval, this, hE.2.2 sj _ hget]
      have hbn : b = !want := by revert hbw; cases b <;> cases want <;> simp
      simp only [execOp, hop, hsj', asBool]
      rw [hbn]
      cases want
      · simp only [cond_false] at hv
        rw [hv]; rfl
      · simp only [cond_true] at hv
        rw [hv]; rfl
  | .gd j want body p rest, cur, gs, dn, E, h, pd, K, QP, seen, lost, kO, a, pdA, R2, hok, hob, H, hE, hGd, hgs, hPD, hQ, hcont => by
    simp only [okI] at hok
    simp only [vcR] at H
    split at hok
    case h_2 => cases hok
    rename_i o sj ho hsj
    simp only [ho, hsj] at H
    simp only [Bool.and_eq_true, List.all_eq_true, Bool.not_eq_true'] at hok
    obtain ⟨⟨⟨⟨⟨hg, hd⟩, hgd⟩, hm⟩, hbody⟩, hrest⟩ := hok
    simp only [okO, Bool.and_eq_true] at hob
    obtain ⟨hob1, hob2⟩ := hob
    split at H
    case h_2 => exact H.elim
    rename_i sc x y d hop hdst
    cases hb : Nat.beq sj sc <;> rw [hb] at H
    · exact H.elim
    simp only [cond_true] at H
    have hsc : sj = sc := Nat.eq_of_beq_eq_true hb
    subst hsc
    split at H
    case h_2 => exact H.elim
    rename_i b hget
    simp only [lin]
    have hya : yielded ops a.tmps j = some b := by rw [yielded_slot hsj, hE.2.2 sj _ hget]
    have hdp : dstOf ops p = [d] := dstOf_mem ho hdst
    have hdN : d < N := dOk_lt hd d hdst
    have hdf : ∀ c, o.op ≠ .defer c := by rw [hop]; simp
    have after : ∀ (a1 : Act) (h1 : Heap) (pd1 : List (Nat × LS)) (pd2 : List (Nat × LS)) (seen1 lost1 : List Nat) (t : Bool), a1.tmps.size = N → a1.defers = D → (∀ s : Nat, s ∉ dsts ops body → a1.tmps[s]? = a.tmps[s]?) →
        (∀ q ∈ pd1, q ∈ pdA ∨ q.2 = [] ∨ q.1 ∈ loads body) → PD pd2 seen1 lost1 pd1 → okO an rest seen1 lost1 kO = true → (execOp a1.eval o = pure (.value (.bool t))) →
        vcR P w₀ ops rest ((d, .bool t) :: dropE (dsts ops body) E) h1 pd2 K QP → lex r P w₀ ops Q an (.op p false (lin rest R2)) a1 h1 pd1 := by
      intro a1 h1 pd1 pd2 seen1 lost1 t s1 s2 s3 s4 s5 s6 hex hvc
      have hE1 : Holds N D (dropE (dsts ops body) E) a1 := ⟨s1, s2, fun u v hv => by
        obtain ⟨e1, e2⟩ := get_dropE hv
        rw [s3 u e2]; exact hE.2.2 u v e1⟩
      have hG1 : Gd ops cur a1 := Gd_same hgs (fun s hs => s3 s fun hmem => okI_dsts hbody s (List.mem_cons_of_mem _ hs) hmem) hGd
      have hw := wanted_of_Gd hg hG1
      refine ⟨o, .bool t, [], toList_get ho, .inl ⟨hw, hdf, fun h' _ n => ⟨n, by rw [hex]; rfl⟩⟩, (fun q hq => by cases hq), ?_⟩
      have hput : ∀ s : Nat, s ∉ dstOf ops p → (a1.put o.dst (.bool t)).tmps[s]? = a1.tmps[s]? := fun s hs => put_other (not_dst ho hs)
      have hE2 : Holds N D ((d, .bool t) :: dropE (dsts ops body) E) (a1.put o.dst (.bool t)) := by rw [hdst]; exact hE1.put hdN _
      refine vcR_lex rest cur gs (p :: dn) _ h1 pd2 K QP seen1 lost1 kO (a1.put o.dst (.bool t)) _ R2 hrest s6 hvc hE2 ?_ hgs ?_ hQ ?_
      · exact Gd_same hgs (fun s hs => hput s fun hmm => by have := hgd s hmm; rw [memN_iff.2 hs] at this; cases this) hG1
      · intro q hq
        rcases List.mem_cons.1 hq with rfl | hq
        · exact .inl rfl
        · exact s5 q hq
      · intro E' h' pd' a' pdA' seen' lost' g1 g2 g3 g4 g5 g6
        refine hcont E' h' pd' a' pdA' seen' lost' g1 g2 (fun s hs => ?_) g4 g5 (fun q hq => ?_)
        · simp only [dsts, List.mem_append, not_or] at hs
          rw [g3 s hs.2.2, hput s hs.2.1, s3 s hs.1]
        · rcases g6 q hq with e | e | e
          · rcases List.mem_cons.1 e with rfl | e
            · exact .inr (.inl rfl)
            · rcases s4 q e with e | e | e
              · exact .inl e
              · exact .inr (.inl e)
              · exact .inr (.inr (List.mem_append_left _ e))
          · exact .inr (.inl e)
          · exact .inr (.inr (List.mem_append_right _ e))
    have Hj := H
    by_cases hbw : b = want
    · have Hb := Hj.1 hbw
      refine vcR_lex body (some (j, want)) (sj :: gs) [] E h pd _ QP seen lost _ a pdA _ hbody hob1 Hb hE (by simp only [Gd]; rw [hya, hbw]) (fun j' w' e => by cases e; exact ⟨sj, hsj, List.mem_cons_self ..⟩) hPD hQ ?_
      intro E' h' pd' a' pdA' seen' lost' g1 g2 g3 g4 g5 g6
      split at g1
      case h_2 => exact g1.elim
      rename_i t hv
      refine after a' h' pdA' pd' seen' lost' t g2.1 g2.2.1 g3 g6 g5 g4 ?_ g1
      have hsj' : a'.eval (.tmp sj) = .bool b := by
        have : a'.tmps[sj]? = a.tmps[sj]? := g3 sj (okI_dsts hbody sj (List.mem_cons_self ..))
        simp [Act.eval, this, hE.2.2 sj _ hget]
      simp only [execOp, hop, hsj', asBool]
      rw [hbw]
      cases want
      · simp only [cond_false] at hv
        rw [← g2.val hv]; rfl
      · simp only [cond_true] at hv
        rw [← g2.val hv]; rfl
    · have Hb := Hj.2 (by revert hbw; cases b <;> cases want <;> simp)
      refine skip_lex body j want (sj :: gs) [] a h pdA _ hbody (by rw [hya]; simpa using hbw) (fun k hk => by cases hk) ?_
      intro a' pdA' g1 g2 g3 g4 g5
      split at Hb
      case h_2 => exact Hb.elim
      rename_i t hv
      refine after a' h pdA' pd seen lost t (by rw [g1]; exact hE.1) (by rw [g2]; exact hE.2.1) g3 (fun q hq => (g5 q hq).imp id .inl) (fun q hq => (g5 q hq).elim (fun e => hPD q e) .inl) hob2 ?_ Hb
      have hsj' : a'.eval (.tmp sj) = .bool b := by
        have : a'.tmps[sj]? = a.tmps[sj]? := g3 sj (okI_dsts hbody sj (List.mem_cons_self ..))
        simp [Act.eval, this, hE.2.2 sj _ hget]
      have hbn : b = !want := by revert hbw; cases b <;> cases want <;> simp
      simp only [execOp, hop, hsj', asBool]
      rw [hbn]
      cases want
      · simp only [cond_false] at hv
        rw [hv]; rfl
      · simp only [cond_true] at hv
        rw [hv]; rfl
end
end Go.V
