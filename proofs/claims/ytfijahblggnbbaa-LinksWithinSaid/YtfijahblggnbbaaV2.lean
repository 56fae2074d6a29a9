/- The quiet operations: the condition of each, and that it is enough. No condition. -/
import Derived.Test.YtfijahblggnbbaaV1
namespace Go.V

section
variable (P : Program)

/-- The place and size of a field. -/
def fieldOf (t : TypeId) (f : Nat) : Option (Nat × Nat × TypeId) :=
  match P.underlying t with
  | some (.struct fs) => match fs[f]? with
    | some fd => match P.info? fd.type with
      | some i => some (fd.offset, i.size, fd.type)
      | none => none
    | none => none
  | _ => none

theorem fieldOf_out {t : TypeId} {f o z : Nat} {u : TypeId} (h : fieldOf P t f = some (o, z, u)) :
    ∃ fs fd i, P.underlying t = some (.struct fs) ∧ fs[f]? = some fd ∧ P.info? fd.type = some i ∧ fd.offset = o ∧ i.size = z ∧ fd.type = u := by
  unfold fieldOf at h
  split at h
  · rename_i fs hu
    split at h
    · rename_i fd hf
      split at h
      · rename_i i hi
        cases h
        exact ⟨fs, fd, i, hu, hf, hi, rfl, rfl, rfl⟩
      · cases h
    · cases h
  · cases h

/-- The element type and its cells, of a slice type; of an array type with its length. -/
def elemOfSlice (t : TypeId) : Option (TypeId × Nat) :=
  match P.underlying t with
  | some (.slice e) => match P.info? e with
    | some i => some (e, i.size)
    | none => none
  | _ => none

theorem elemOfSlice_out {t : TypeId} {e z : Nat} (h : elemOfSlice P t = some (e, z)) : ∃ i, P.underlying t = some (.slice e) ∧ P.info? e = some i ∧ i.size = z := by
  unfold elemOfSlice at h
  split at h
  · split at h
    · rename_i i hi; cases h; exact ⟨i, by assumption, hi, rfl⟩
    · cases h
  · cases h

def elemOfArray (t : TypeId) : Option (Nat × TypeId × Nat) :=
  match P.underlying t with
  | some (.array n e) => match P.info? e with
    | some i => some (n, e, i.size)
    | none => none
  | _ => none

theorem elemOfArray_out {t : TypeId} {n e z : Nat} (h : elemOfArray P t = some (n, e, z)) : ∃ i, P.underlying t = some (.array n e) ∧ P.info? e = some i ∧ i.size = z := by
  unfold elemOfArray at h
  split at h
  · split at h
    · rename_i i hi; cases h; exact ⟨i, by assumption, hi, rfl⟩
    · cases h
  · cases h

def fieldAddrF (t : TypeId) (f : Nat) (x : Value) (K : Value → Prop) : Prop :=
  match x with
  | .pointer (some a) => match fieldOf P t f with
    | some (o, _ + 1, _) => K (.pointer (some (a.add o)))
    | _ => False
  | _ => False

theorem fieldAddrF_sound {t : TypeId} {f : Nat} {x : Value} {K : Value → Prop} (H : fieldAddrF P t f x K) : ∃ v, K v ∧ ∀ w, (Instr.fieldAt t x f).run P w = .ok v w := by
  unfold fieldAddrF at H
  split at H
  · split at H
    · rename_i a o _ u ho
      obtain ⟨fs, fd, i, hu, hf, hi, rfl, hz, rfl⟩ := fieldOf_out P ho
      exact ⟨_, H, fun w => by simp [Instr.fieldAt, run_underlying hu, hf, Instr.sureAddr, fieldPlace, sizeOf, typeInfo, hi, hz]⟩
    · exact H.elim
  · exact H.elim

def partF (t : TypeId) (cs : List Value) (o z : Nat) (K : Value → Prop) : Prop :=
  match isAggB P t with
  | some true => K (.agg ((cs.drop o).take z).toArray)
  | some false => match cs[o]? with
    | some v => K v
    | none => False
  | none => False

theorem partF_sound {t : TypeId} {cs : List Value} {o z : Nat} {K : Value → Prop} {i : TypeInfo} (hi : P.info? t = some i) (hz : i.size = z) (H : partF P t cs o z K) :
    ∃ v, K v ∧ ∀ w, (part t cs.toArray o).run P w = .ok v w := by
  unfold partF at H
  split at H
  · rename_i hb
    refine ⟨_, H, fun w => ?_⟩
    simp [part, isAggB_run P hb w, sizeOf, typeInfo, hi, hz, List.take_drop]
  · rename_i hb
    split at H
    · rename_i v hv
      refine ⟨_, H, fun w => ?_⟩
      simp [part, isAggB_run P hb w, hv]
    · exact H.elim
  · exact H.elim

def fieldF (t : TypeId) (f : Nat) (x : Value) (K : Value → Prop) : Prop :=
  match x with
  | .agg cs => match fieldOf P t f with
    | some (o, z, u) => partF P u cs.toList o z K
    | _ => False
  | _ => False

theorem fieldF_sound {t : TypeId} {f : Nat} {x : Value} {K : Value → Prop} (H : fieldF P t f x K) : ∃ v, K v ∧ ∀ w, (Instr.field t x f).run P w = .ok v w := by
  unfold fieldF at H
  split at H
  · split at H
    · rename_i cs o z u ho
      obtain ⟨fs, fd, i, hu, hf, hi, rfl, hz, rfl⟩ := fieldOf_out P ho
      obtain ⟨v, hv, hr⟩ := partF_sound P hi hz H
      exact ⟨v, hv, fun w => by
        have := hr w
        simp only [Array.toArray_toList] at this
        simp [Instr.field, run_underlying hu, hf, asAgg, this]⟩
    · exact H.elim
  · exact H.elim

def indexAddrF (t : TypeId) (x i : Value) (K : Value → Prop) : Prop :=
  match i with
  | .int _ i => match x with
    | .slice p n _ => match elemOfSlice P t with
      | some (_, z) => ∃ a, p = some a ∧ 0 ≤ i ∧ i < n ∧ K (.pointer (some (a.add (i.toNat * z))))
      | none => False
    | .pointer (some a) => match elemOfArray P t with
      | some (n, _, z) => 0 ≤ i ∧ i < n ∧ K (.pointer (some (a.add (i.toNat * z))))
      | none => False
    | _ => False
  | _ => False

theorem indexAddrF_sound {t : TypeId} {x i : Value} {K : Value → Prop} (H : indexAddrF P t x i K) : ∃ v, K v ∧ ∀ w, (Instr.indexAt t x i).run P w = .ok v w := by
  unfold indexAddrF at H
  split at H
  · rename_i k i
    split at H
    · split at H
      · rename_i p n c e z he
        obtain ⟨inf, hu, hi, hz⟩ := elemOfSlice_out P he
        obtain ⟨a, rfl, h0, h1, hK⟩ := H
        exact ⟨_, hK, fun w => by simp [Instr.indexAt, asIntOf, run_underlying hu, h0, h1, sizeOf, typeInfo, hi, hz]⟩
      · exact H.elim
    · split at H
      · rename_i a n e z he
        obtain ⟨inf, hu, hi, hz⟩ := elemOfArray_out P he
        obtain ⟨h0, h1, hK⟩ := H
        exact ⟨_, hK, fun w => by simp [Instr.indexAt, Instr.sureAddr, asIntOf, run_underlying hu, h0, h1, sizeOf, typeInfo, hi, hz]⟩
      · exact H.elim
    · exact H.elim
  · exact H.elim

/-- xs[i] of an array that is a value. -/
def indexF (t : TypeId) (x i : Value) (K : Value → Prop) : Prop :=
  match i with
  | .int _ i => match x with
    | .agg cs => match elemOfArray P t with
      | some (n, e, z) => 0 ≤ i ∧ i < n ∧ partF P e cs.toList (i.toNat * z) z K
      | none => False
    | _ => False
  | _ => False

theorem indexF_sound {t : TypeId} {x i : Value} {K : Value → Prop} (H : indexF P t x i K) : ∃ v, K v ∧ ∀ w, (Instr.index t x i).run P w = .ok v w := by
  unfold indexF at H
  split at H
  · rename_i k i
    split at H
    · split at H
      · rename_i cs n e z he
        obtain ⟨inf, hu, hi, hz⟩ := elemOfArray_out P he
        obtain ⟨h0, h1, hK⟩ := H
        obtain ⟨v, hv, hr⟩ := partF_sound P hi hz hK
        refine ⟨v, hv, fun w => ?_⟩
        have := hr w
        simp only [Array.toArray_toList] at this
        simp [Instr.index, asIntOf, run_underlying hu, h0, h1, sizeOf, typeInfo, hi, hz, this]
      · exact H.elim
    · exact H.elim
  · exact H.elim

/-- A bound of a slice expression that may lack. -/
def boundF (x : Option Value) (lack : Int) (K : Int → Prop) : Prop :=
  match x with
  | none => K lack
  | some (.int _ i) => K i
  | some _ => False

/-- x[lo:hi] of a slice, or of an array that lies in memory. -/
def sliceF (t : TypeId) (x : Value) (lo hi : Option Value) (K : Value → Prop) : Prop :=
  match x with
  | .slice p n c => match elemOfSlice P t with
    | some (_, z) => boundF hi n fun h => boundF lo 0 fun l => 0 ≤ l ∧ l ≤ h ∧ h ≤ c ∧
        K (.slice (if c = l.toNat then p else p.map (·.add (l.toNat * z))) (h.toNat - l.toNat) (c - l.toNat))
    | none => False
  | .pointer (some a) => match elemOfArray P t with
    | some (n, _, z) => boundF hi n fun h => boundF lo 0 fun l => 0 ≤ l ∧ l ≤ h ∧ h ≤ n ∧
        K (.slice (some (if n = l.toNat then a else a.add (l.toNat * z))) (h.toNat - l.toNat) (n - l.toNat))
    | none => False
  | _ => False

theorem sliceF_sound {t : TypeId} {x : Value} {lo hi : Option Value} {K : Value → Prop} (H : sliceF P t x lo hi K) : ∃ v, K v ∧ ∀ w, (Instr.sliceAt t x lo hi none).run P w = .ok v w := by
  have bnd : ∀ {y : Option Value} {lack : Int} {F : Int → Prop}, boundF y lack F → ∃ i, F i ∧ ((y = none ∧ i = lack) ∨ ∃ k, y = some (.int k i)) := by
    intro y lack F h
    unfold boundF at h
    split at h
    · exact ⟨_, h, .inl ⟨rfl, rfl⟩⟩
    · rename_i k i; exact ⟨_, h, .inr ⟨k, rfl⟩⟩
    · exact h.elim
  have bs : ∀ (sl : Bool) (n c : Nat) (h l : Int), ((hi = none ∧ h = n) ∨ ∃ k, hi = some (.int k h)) → ((lo = none ∧ l = 0) ∨ ∃ k, lo = some (.int k l)) → 0 ≤ l → l ≤ h → h ≤ c →
      ∀ w, (Instr.sliceBounds sl n c lo hi none).run P w = .ok (l.toNat, h.toNat, c) w := by
    intro sl n c h l hh hl h0 h1 h2 w
    have hh0 : 0 ≤ h := by omega
    rcases hh with ⟨rfl, rfl⟩ | ⟨k, rfl⟩ <;> rcases hl with ⟨rfl, rfl⟩ | ⟨k', rfl⟩
    · simp [Instr.sliceBounds]
    · have : l ≤ (n : Int) := h1
      simp [Instr.sliceBounds, Instr.sliceBound, asIntOf, h0, this]
    · simp [Instr.sliceBounds, Instr.sliceBound, asIntOf, hh0, h2]
    · have : ((h.toNat : Nat) : Int) = h := Int.toNat_of_nonneg hh0
      simp only [Instr.sliceBounds, Instr.sliceBound, asIntOf, Sem.run_bind, Sem.run_pure, Result.andThen_ok, hh0, h2, h0, and_self, if_true, this, h1]
  unfold sliceF at H
  split at H
  · split at H
    · rename_i p n c _ e z he
      obtain ⟨inf, hu, hinf, hz⟩ := elemOfSlice_out P he
      obtain ⟨h, H, hh⟩ := bnd H
      obtain ⟨l, H, hl⟩ := bnd H
      obtain ⟨h0, h1, h2, hK⟩ := H
      exact ⟨_, hK, fun w => by simp [Instr.sliceAt, Instr.slice, run_underlying hu, bs true n c h l hh hl h0 h1 h2, sizeOf, typeInfo, hinf, hz]⟩
    · exact H.elim
  · split at H
    · rename_i a n e z he
      obtain ⟨inf, hu, hinf, hz⟩ := elemOfArray_out P he
      obtain ⟨h, H, hh⟩ := bnd H
      obtain ⟨l, H, hl⟩ := bnd H
      obtain ⟨h0, h1, h2, hK⟩ := H
      exact ⟨_, hK, fun w => by simp [Instr.sliceAt, Instr.sureAddr, run_underlying hu, bs false n n h l hh hl h0 h1 h2, sizeOf, typeInfo, hinf, hz]⟩
    · exact H.elim
  · exact H.elim

def convF (src dst : TypeId) (x : Value) (K : Value → Prop) : Prop :=
  match x with
  | .int _ n => match P.underlying src, P.underlying dst with
    | some (.int _), some (.int k) => K (.int k (k.wrap n))
    | _, _ => False
  | _ => False

theorem convF_sound {s d : TypeId} {x : Value} {K : Value → Prop} (H : convF P s d x K) : ∃ v, K v ∧ ∀ w, (convert s d x).run P w = .ok v w := by
  unfold convF at H
  split at H
  · split at H
    · rename_i n k0 k h1 h2
      exact ⟨_, H, fun w => by simp [convert, run_underlying h1, run_underlying h2, Conv.intToInt]⟩
    · exact H.elim
  · exact H.elim

def unF (op : UnOp) (x : Value) (K : Value → Prop) : Prop :=
  match op, x with
  | .not, .bool b => K (.bool !b)
  | .neg, .int k n => K (.int k (k.wrap (0 - n)))
  | .xor, .int k n => K (.int k (k.wrap (BitVec.ofInt k.bits (if k.signed then -1 else k.max) ^^^ BitVec.ofInt k.bits n).toNat))
  | _, _ => False

theorem unF_sound {op : UnOp} {x : Value} {K : Value → Prop} (H : unF op x K) : ∃ v, K v ∧ ∀ w, (Op.unary op x).run P w = .ok v w := by
  unfold unF at H
  split at H
  · exact ⟨_, H, fun w => rfl⟩
  · exact ⟨_, H, fun w => rfl⟩
  · exact ⟨_, H, fun w => rfl⟩
  · exact H.elim

/-- min, max of integers. -/
def minMaxF (mx : Bool) : List Value → (Value → Prop) → Prop
  | [.int k x, .int k' y], K => if k = k' then K (.int k (bif mx then (if y > x then y else x) else (if y < x then y else x))) else False
  | _, _ => False

def lenF (t : TypeId) (x : Value) (K : Value → Prop) : Prop :=
  match x with
  | .slice _ n _ => match tk P t with
    | .slice => K (.int .i64 n)
    | _ => False
  | .string s => match tk P t with
    | .str => K (.int .i64 s.size)
    | _ => False
  | _ => False

theorem lenF_sound {t : TypeId} {x : Value} {K : Value → Prop} {ty : TypeId} (H : lenF P t x K) : ∃ v, K v ∧ ∀ w, (Builtin.len_ #[t] ty #[x]).run P w = .ok v w := by
  unfold lenF at H
  split at H
  · cases hk : tk P t <;> rw [hk] at H <;> try exact H.elim
    obtain ⟨e, hu⟩ := tk_slice P hk
    exact ⟨_, H, fun w => by simp [Builtin.len_, run_underlying hu, goInt]⟩
  · cases hk : tk P t <;> rw [hk] at H <;> try exact H.elim
    have hu : P.underlying t = some .string := by
      unfold tk at hk
      split at hk <;> first | assumption | cases hk | (revert hk; cases Nat.beq _ _ <;> simp)
    exact ⟨_, H, fun w => by simp [Builtin.len_, run_underlying hu, goInt]⟩
  · exact H.elim

end
end Go.V
