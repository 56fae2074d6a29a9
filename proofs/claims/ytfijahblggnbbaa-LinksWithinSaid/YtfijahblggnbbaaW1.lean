/- Heaps block by block: what a block holds, what a store, a push leave. No condition. -/
import Derived.Test.YtfijahblggnbbaaV7
import Derived.RowKit3
set_option linter.unusedSimpArgs false
set_option linter.unusedVariables false
namespace Go.V

@[simp] theorem add_mk (b i n : Nat) : (⟨b, i, none⟩ : Addr).add n = ⟨b, i + n, none⟩ := by
  unfold Addr.add
  split
  · rename_i h; subst h; rfl
  · rfl

/-- Block b has n cells, cell i is f i; all may be written. -/
def Blk (h : Heap) (b n : Nat) (f : Nat → Value) : Prop :=
  ∃ (arr : Array Value) (T : TypeId), h[b]? = some (.cells arr T (0, 0)) ∧ arr.size = n ∧ ∀ j, j < n → arr[j]? = some (f j)

/-- Blocks of h outside S stand in h' as they stood; nothing has been frozen or let go. -/
def Upd (S : Nat → Prop) (h h' : Heap) : Prop := h.size ≤ h'.size ∧ (∀ b, b < h.size → ¬ S b → h'[b]? = h[b]?) ∧ ∀ a, frozenAt h' a = frozenAt h a

def fz : Obj → Prop
  | .cells _ _ f => f = (0, 0)
  | _ => True

theorem Blk.lt {h : Heap} {b n : Nat} {f : Nat → Value} (H : Blk h b n f) : b < h.size := by
  obtain ⟨arr, T, h1, _⟩ := H
  exact (Array.getElem?_eq_some_iff.1 h1).1

theorem Blk.cell {h : Heap} {b n : Nat} {f : Nat → Value} (H : Blk h b n f) {i : Nat} (hi : i < n) : cellAt h ⟨b, i, none⟩ = some (f i) := by
  obtain ⟨arr, T, h1, h2, h3⟩ := H
  simp [cellAt, h1, h3 i hi]

theorem Blk.wr {h : Heap} {b n : Nat} {f : Nat → Value} (H : Blk h b n f) {i : Nat} (hi : i < n) : Wr h ⟨b, i, none⟩ := by
  refine ⟨by rw [H.cell hi]; rfl, ?_⟩
  obtain ⟨arr, T, h1, h2, h3⟩ := H
  simp [frozenAt, h1]

theorem Blk.congr {h : Heap} {b n : Nat} {f g : Nat → Value} (H : Blk h b n f) (hg : ∀ i, i < n → f i = g i) : Blk h b n g := by
  obtain ⟨arr, T, h1, h2, h3⟩ := H
  exact ⟨arr, T, h1, h2, fun j hj => by rw [h3 j hj, hg j hj]⟩

theorem Blk.upd {S : Nat → Prop} {h h' : Heap} {b n : Nat} {f : Nat → Value} (H : Blk h b n f) (hu : Upd S h h') (hs : ¬ S b) : Blk h' b n f := by
  have hl := H.lt
  obtain ⟨arr, T, h1, h2, h3⟩ := H
  exact ⟨arr, T, by rw [hu.2.1 b hl hs, h1], h2, h3⟩

theorem cellAt_upd {S : Nat → Prop} {h h' : Heap} {a : Addr} {v : Value} (H : cellAt h a = some v) (hu : Upd S h h') (hs : ¬ S a.block) : cellAt h' a = some v := by
  obtain ⟨c, T, f, hb, _, _⟩ := cellAt_block (h := h) (a := a) (by rw [H]; rfl)
  have hl : a.block < h.size := (Array.getElem?_eq_some_iff.1 hb).1
  unfold cellAt at *
  rw [hu.2.1 _ hl hs]
  exact H

@[simp] theorem setC_size (h : Heap) (a : Addr) (v : Value) : (setC h a v).size = h.size := by simp [setC]

theorem setC_upd (h : Heap) (a : Addr) (v : Value) : Upd (fun b => b = a.block) h (setC h a v) :=
  ⟨by simp, fun b _ hb => by rw [setC_block, if_neg hb], fun x => by
    unfold frozenAt
    rw [setC_block]
    by_cases hx : x.block = a.block
    · rw [if_pos hx]
      cases h[x.block]? with
      | none => rfl
      | some o => cases o <;> rfl
    · rw [if_neg hx]⟩

theorem push_get (h : Heap) (o : Obj) (b : Nat) (hb : b < h.size) : (h.push o)[b]? = h[b]? := by
  rw [Array.getElem?_push, if_neg (by omega)]

theorem push_upd (S : Nat → Prop) (h : Heap) (o : Obj) (ho : fz o := by exact rfl) : Upd S h (h.push o) := ⟨by simp, fun b hb _ => push_get h o b hb, fun x => by
  unfold frozenAt
  by_cases hx : x.block = h.size
  · rw [hx]
    cases o with
    | cells c t f => have : f = (0, 0) := ho; subst this; simp
    | _ => simp
  · rw [Array.getElem?_push, if_neg hx]⟩

theorem Upd.refl (S : Nat → Prop) (h : Heap) : Upd S h h := ⟨Nat.le_refl _, fun _ _ _ => rfl, fun _ => rfl⟩

theorem Upd.trans {S S' S'' : Nat → Prop} {h h' h'' : Heap} (H : Upd S h h') (H' : Upd S' h' h'') (hs : ∀ b, S b → S'' b) (hs' : ∀ b, S' b → b < h.size → S'' b) : Upd S'' h h'' := by
  refine ⟨Nat.le_trans H.1 H'.1, fun b hb hn => ?_, fun x => by rw [H'.2.2 x, H.2.2 x]⟩
  rw [H'.2.1 b (Nat.lt_of_lt_of_le hb H.1) (fun e => hn (hs' b e hb)), H.2.1 b hb (fun e => hn (hs b e))]

theorem Upd.nx {S Z : Nat → Prop} {h h1 h2 : Heap} (H : Upd S h h1) (H' : Upd Z h1 h2) (hz : ∀ b, Z b → b < h.size → S b) : Upd S h h2 := Upd.trans H H' (fun _ e => e) hz

theorem Upd.mono {S S' : Nat → Prop} {h h' : Heap} (H : Upd S h h') (hs : ∀ b, S b → b < h.size → S' b) : Upd S' h h' :=
  ⟨H.1, fun b hb hn => H.2.1 b hb fun e => hn (hs b e hb), H.2.2⟩

theorem setCs_size : ∀ (vs : List Value) (h : Heap) (a : Addr) (i : Nat), (setCs h a i vs).size = h.size
  | [], _, _, _ => rfl
  | v :: vs, h, a, i => by rw [setCs, setCs_size vs]; simp

theorem setCs_upd : ∀ (vs : List Value) (h : Heap) (a : Addr) (i : Nat), Upd (fun b => b = a.block) h (setCs h a i vs)
  | [], h, _, _ => Upd.refl _ h
  | v :: vs, h, a, i => by
    have hb : (a.add i).block = a.block := by unfold Addr.add; split <;> rfl
    exact Upd.trans (setC_upd h (a.add i) v) (setCs_upd vs _ a (i + 1)) (fun b e => by rw [e, hb]) (fun b e _ => e)

theorem Blk.set {h : Heap} {b n : Nat} {f : Nat → Value} (H : Blk h b n f) (i : Nat) (v : Value) : Blk (setC h ⟨b, i, none⟩ v) b n (fun j => if j = i then v else f j) := by
  obtain ⟨arr, T, h1, h2, h3⟩ := H
  refine ⟨arr.setIfInBounds i v, T, by rw [setC_block]; simp [h1], by simp [h2], fun j hj => ?_⟩
  rw [Array.getElem?_setIfInBounds]
  by_cases hij : i = j
  · subst hij; simp [h2, hj]
  · simp [hij, Ne.symm hij, h3 j hj]

theorem Blk.set_ne {h : Heap} {b n : Nat} {f : Nat → Value} (H : Blk h b n f) {a : Addr} (hab : b ≠ a.block) (v : Value) : Blk (setC h a v) b n f :=
  H.upd (setC_upd h a v) hab

theorem Blk.sets {b n : Nat} : ∀ (vs : List Value) {h : Heap} {f : Nat → Value} (H : Blk h b n f) (o i : Nat),
    Blk (setCs h ⟨b, o, none⟩ i vs) b n (fun j => if o + i ≤ j ∧ j < o + i + vs.length then vs.getD (j - (o + i)) undef else f j)
  | [], h, f, H, o, i => H.congr fun j hj => by simp; intros; omega
  | v :: vs, h, f, H, o, i => by
    rw [setCs, add_mk]
    refine (Blk.sets vs (H.set (o + i) v) o (i + 1)).congr fun j hj => ?_
    simp only [List.length_cons]
    by_cases h1 : j = o + i
    · subst h1
      rw [if_neg (by omega), if_pos rfl, if_pos (by omega)]
      simp
    · by_cases h2 : o + i ≤ j ∧ j < o + i + (vs.length + 1)
      · rw [if_pos (by omega), if_pos h2]
        obtain ⟨k, hk⟩ : ∃ k, j - (o + i) = k + 1 := ⟨j - (o + i) - 1, by omega⟩
        rw [hk, List.getD_cons_succ]
        congr 1
        omega
      · rw [if_neg (by omega), if_neg h1, if_neg h2]

theorem Blk.push {h : Heap} {b n : Nat} {f : Nat → Value} (H : Blk h b n f) (o : Obj) (ho : fz o := by exact rfl) : Blk (h.push o) b n f := H.upd (push_upd (fun _ => False) h o ho) id

theorem Blk.new (h : Heap) (arr : Array Value) (T : TypeId) : Blk (h.push (.cells arr T (0, 0))) h.size arr.size (fun j => arr.getD j undef) :=
  ⟨arr, T, by simp, rfl, fun j hj => by simp [hj]⟩

theorem Blk.new' (h : Heap) (arr : Array Value) (T : TypeId) (n : Nat) (f : Nat → Value) (hn : arr.size = n) (hf : ∀ j, j < n → arr[j]? = some (f j)) : Blk (h.push (.cells arr T (0, 0))) h.size n f :=
  ⟨arr, T, by simp, hn, hf⟩

theorem Blk.uniq {h : Heap} {b n m : Nat} {f g : Nat → Value} (H : Blk h b n f) (H' : Blk h b m g) : n = m ∧ ∀ i, i < n → f i = g i := by
  obtain ⟨arr, T, h1, h2, h3⟩ := H
  obtain ⟨arr', T', h1', h2', h3'⟩ := H'
  rw [h1] at h1'
  cases h1'
  refine ⟨by omega, fun i hi => ?_⟩
  have e1 := h3 i hi
  have e2 := h3' i (by omega)
  rw [e1] at e2
  exact Option.some.inj e2

/-- A cell of a block that is new is written at once. -/
theorem setC_push (h : Heap) (arr : Array Value) (T : TypeId) (i : Nat) (v : Value) : setC (h.push (.cells arr T)) ⟨h.size, i, none⟩ v = h.push (.cells (arr.setIfInBounds i v) T) := by
  apply Array.ext_getElem?
  intro b
  rw [setC_block]
  by_cases hb : b = h.size
  · subst hb; simp
  · rw [if_neg hb, Array.getElem?_push, Array.getElem?_push]
    simp [hb]

/-- A row of n cells from p on. -/
def Row (h : Heap) (p : Option Addr) (n : Nat) (f : Nat → Value) : Prop :=
  n = 0 ∨ ∃ b o, p = some ⟨b, o, none⟩ ∧ ∀ i, i < n → cellAt h ⟨b, o + i, none⟩ = some (f i)

/-- It may be written. -/
def WRow (h : Heap) (p : Option Addr) (n : Nat) : Prop := n = 0 ∨ ∃ b o, p = some ⟨b, o, none⟩ ∧ ∀ i, i < n → Wr h ⟨b, o + i, none⟩

/-- A row's block is none of S. -/
def Off (S : Nat → Prop) (p : Option Addr) : Prop := ∀ a, p = some a → ¬ S a.block

theorem Blk.row {h : Heap} {b n : Nat} {f : Nat → Value} (H : Blk h b n f) (o m : Nat) (hm : o + m ≤ n) : Row h (some ⟨b, o, none⟩) m (fun i => f (o + i)) :=
  .inr ⟨b, o, rfl, fun i hi => H.cell (by omega)⟩

theorem Blk.wrow {h : Heap} {b n : Nat} {f : Nat → Value} (H : Blk h b n f) (o m : Nat) (hm : o + m ≤ n) : WRow h (some ⟨b, o, none⟩) m :=
  .inr ⟨b, o, rfl, fun i hi => H.wr (by omega)⟩

theorem Row.upd {S : Nat → Prop} {h h' : Heap} {p : Option Addr} {n : Nat} {f : Nat → Value} (H : Row h p n f) (hu : Upd S h h') (hs : Off S p) : Row h' p n f := by
  rcases H with e | ⟨b, o, rfl, H⟩
  · exact .inl e
  · exact .inr ⟨b, o, rfl, fun i hi => cellAt_upd (H i hi) hu (show ¬ S b from hs ⟨b, o, none⟩ rfl)⟩

theorem Row.congr {h : Heap} {p : Option Addr} {n : Nat} {f g : Nat → Value} (H : Row h p n f) (hg : ∀ i, i < n → f i = g i) : Row h p n g := by
  rcases H with e | ⟨b, o, rfl, H⟩
  · exact .inl e
  · exact .inr ⟨b, o, rfl, fun i hi => by rw [H i hi, hg i hi]⟩

def lst (n : Nat) (f : Nat → Value) : List Value := (List.range n).map f
@[simp] theorem lst_length (n : Nat) (f : Nat → Value) : (lst n f).length = n := by simp [lst]
theorem lst_get {n i : Nat} {f : Nat → Value} (hi : i < n) : (lst n f)[i]? = some (f i) := by simp [lst, hi]
theorem lst_getD {n i : Nat} {f : Nat → Value} {d : Value} (hi : i < n) : (lst n f).getD i d = f i := by simp [lst, hi, List.getD]

theorem Row.rowAt {h : Heap} {p : Option Addr} {n : Nat} {f : Nat → Value} (H : Row h p n f) : rowAt h p (lst n f) := by
  rcases H with e | ⟨b, o, rfl, H⟩
  · subst e
    cases p
    · rfl
    · intro j v hv; simp [lst] at hv
  · intro j v hv
    have hj : j < n := by
      rcases Nat.lt_or_ge j n with hl | hl
      · exact hl
      · rw [List.getElem?_eq_none (by simpa using hl)] at hv; cases hv
    rw [lst_get hj] at hv
    cases hv
    rw [add_mk]
    exact H j hj

theorem WRow.wrN {h : Heap} {p : Option Addr} {n : Nat} (H : WRow h p n) : ∀ a, p = some a → WrN h a n := by
  intro a ha j hj
  rcases H with e | ⟨b, o, rfl, H⟩
  · omega
  · cases ha
    rw [add_mk]
    simpa using H j hj

/-! ### For the walks -/
theorem pF {c : Bool} {X Y : Prop} (hc : c = false) (x : X) : (c = false → X) ∧ (c = (!false) → Y) := ⟨fun _ => x, fun e => by rw [hc] at e; cases e⟩
theorem pT {c : Bool} {X Y : Prop} (hc : c = true) (y : Y) : (c = false → X) ∧ (c = (!false) → Y) := ⟨fun e => (by rw [hc] at e; cases e), fun _ => y⟩
theorem qT {c : Bool} {X Y : Prop} (hc : c = true) (x : X) : (c = true → X) ∧ (c = (!true) → Y) := ⟨fun _ => x, fun e => by rw [hc] at e; cases e⟩
theorem qF' {c : Bool} {X Y : Prop} (hc : c = false) (y : Y) : (c = true → X) ∧ (c = (!true) → Y) := ⟨fun e => (by rw [hc] at e; cases e), fun _ => y⟩
theorem iT {c : Bool} {X Y : Prop} (hc : c = true) (x : X) : (c = true → X) ∧ (c = false → Y) := ⟨fun _ => x, fun e => by rw [hc] at e; cases e⟩
theorem iF {c : Bool} {X Y : Prop} (hc : c = false) (y : Y) : (c = true → X) ∧ (c = false → Y) := ⟨fun e => (by rw [hc] at e; cases e), fun _ => y⟩

theorem jor {A : Bool → Heap → Prop} {c q : Bool} {h1 : Heap} : (∀ J : Bool → Heap → Prop, (∀ (b : Bool) (h : Heap), A b h → J b h) → (c = false → J q h1) ∧ (c = (!false) → J true h1)) ↔ A (c || q) h1 := by
  constructor
  · intro H
    have := H A (fun _ _ a => a)
    cases c
    · exact this.1 rfl
    · exact this.2 rfl
  · intro H J hJ
    cases c
    · exact ⟨fun _ => hJ _ _ H, fun e => by cases e⟩
    · exact ⟨fun e => (by cases e), fun _ => hJ _ _ H⟩

theorem jand {A : Bool → Heap → Prop} {c q : Bool} {h1 : Heap} : (∀ J : Bool → Heap → Prop, (∀ (b : Bool) (h : Heap), A b h → J b h) → (c = true → J q h1) ∧ (c = (!true) → J false h1)) ↔ A (c && q) h1 := by
  constructor
  · intro H
    have := H A (fun _ _ a => a)
    cases c
    · exact this.2 rfl
    · exact this.1 rfl
  · intro H J hJ
    cases c
    · exact ⟨fun e => (by cases e), fun _ => hJ _ _ H⟩
    · exact ⟨fun _ => hJ _ _ H, fun e => by cases e⟩

theorem cellAt_new (h : Heap) (arr : Array Value) (T : TypeId) (i : Nat) : cellAt (h.push (.cells arr T (0, 0))) ⟨h.size, i, none⟩ = arr[i]? := by simp [cellAt]

theorem cellAt_old {h : Heap} {o : Obj} {b i : Nat} (hb : b < h.size) : cellAt (h.push o) ⟨b, i, none⟩ = cellAt h ⟨b, i, none⟩ := by
  unfold cellAt
  rw [push_get h o b hb]

theorem CallV.toE {P : Program} {w₀ : World} {f : FuncId} {args : List Value} {h : Heap} {K : Value → Heap → Prop} {QP : List PanicEntry → Heap → Prop} (H : CallV P w₀ f args h K) : CallsE P w₀ f args.toArray h (callPost K QP) :=
  CallsE.mono H fun e h q => by cases e <;> first | exact q | exact q.elim

theorem grown_of_upd {w : World} {h' : Heap} {n' : Nat} (H : Upd (fun _ => False) w.heap h') : RowKit.Grown w (on w h' n') := by
  refine ⟨⟨rfl, rfl, fun i hi => ?_⟩, fun a => H.2.2 a, H.1⟩
  have e : (on w h' n').heap[i]? = w.heap[i]? := H.2.1 i hi id
  rw [e]
  split
  · rename_i h1 h2
    rw [h1] at h2
    simp only [Option.some.injEq, Obj.cells.injEq] at h2
    obtain ⟨rfl, rfl, rfl⟩ := h2
    exact ⟨rfl, rfl, rfl, fun _ _ => rfl⟩
  · rename_i h1 h2
    rw [h1] at h2
    simp only [Option.some.injEq, Obj.map.injEq] at h2
    exact .inr ⟨h2.1.symm, h2.2.symm⟩
  · rfl

/-- Out of a call over heaps: it answers true, and the world has at most new blocks. -/
theorem calls_of_callV {P : Program} {w : World} {f : FuncId} {args : List Value} (H : CallV P w f args w.heap fun v h' => v = .bool true ∧ Upd (fun _ => False) w.heap h') :
    Calls P f args.toArray w fun e w' => e = .returned (.bool true) ∧ RowKit.Grown w w' := by
  have := H w.drawn
  rw [on_self] at this
  refine this.mono ?_
  rintro e w' ⟨h', n', rfl, hq⟩
  cases e with
  | returned v => exact ⟨by rw [hq.1], grown_of_upd hq.2⟩
  | panicked c => exact hq.elim
  | outgrown => exact hq.elim

end Go.V
