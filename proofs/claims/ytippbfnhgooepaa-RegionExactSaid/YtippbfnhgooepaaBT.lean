/- croftlaw5: tiled. No condition. -/
import Derived.Test.YtippbfnhgooepaaBO
set_option linter.unusedSimpArgs false
set_option linter.unusedVariables false
namespace Go.Proofs.Ytippbfnhgooepaa
open Go.V Classical

/-- How often a page was seen: once, or not yet. -/
noncomputable def seenF (A : Nat → Prop) : Nat → Value := fun q => .int .i64 (if A q then 1 else 0)
def intF (G : Nat → Int) : Nat → Value := fun q => .int .i64 (G q)

theorem seenF_congr {A B : Nat → Prop} (h : ∀ q, A q ↔ B q) : seenF A = seenF B := by
  have : A = B := funext fun q => propext (h q)
  rw [this]

section
variable {h : Heap} {sp : Option Addr} {P cap q : Nat} {A : Nat → Prop} {G : Nat → Int}

theorem seen_inc (H : (slR sp P cap 1 (seenF A)).P h) (hq : q < P) (hA : ¬ A q) : ∃ b, sp = some ⟨b, 0, none⟩ ∧ cellAt h ⟨b, q, none⟩ = some (.int .i64 0) ∧ Wr h ⟨b, q, none⟩ ∧
    Stp h (setC h ⟨b, q, none⟩ (.int .i64 1)) (slR sp P cap 1 (seenF A)) (slR sp P cap 1 (seenF fun y => A y ∨ y = q)) := by
  obtain ⟨b, e, hc⟩ := sl_cell H (i := q) (by omega)
  obtain ⟨b', e', hw, S⟩ := sl_set H (o := q) (by omega) (.int .i64 1)
  rw [e] at e'
  cases e'
  refine ⟨b, e, ?_, hw, S.conv (fun A' => sl_congr A' fun i hi => ?_) fun _ e => e⟩
  · rw [hc]; unfold seenF; rw [if_neg hA]
  · show (if i = q then Value.int .i64 1 else seenF A i) = seenF _ i
    unfold seenF
    by_cases e : i = q
    · rw [if_pos e, if_pos (Or.inr e)]
    · rw [if_neg e]
      by_cases a : A i
      · rw [if_pos a, if_pos (Or.inl a)]
      · rw [if_neg a, if_neg (by rintro (h | h); exact a h; exact e h)]

theorem int_set (H : (slR sp P cap 1 (intF G)).P h) (hq : q < P) (v : Int) : ∃ b, sp = some ⟨b, 0, none⟩ ∧ Wr h ⟨b, q, none⟩ ∧
    Stp h (setC h ⟨b, q, none⟩ (.int .i64 v)) (slR sp P cap 1 (intF G)) (slR sp P cap 1 (intF fun y => if y = q then v else G y)) := by
  obtain ⟨b', e', hw, S⟩ := sl_set H (o := q) (by omega) (.int .i64 v)
  refine ⟨b', e', hw, S.conv (fun A' => sl_congr A' fun i hi => ?_) fun _ e => e⟩
  show (if i = q then Value.int .i64 v else .int .i64 (G i)) = .int .i64 (if i = q then v else G i)
  split <;> rfl
end

/-- The pages of some blocks. -/
def In (bs : List PBk) (q : Nat) : Prop := ∃ b ∈ bs, Cov b q

theorem In.nil (q : Nat) : ¬ In [] q := fun ⟨b, hb, _⟩ => by cases hb
theorem In.snoc {bs : List PBk} {b : PBk} {q : Nat} : In (bs ++ [b]) q ↔ In bs q ∨ Cov b q := by
  unfold In
  constructor
  · rintro ⟨a, ha, hc⟩
    rcases List.mem_append.1 ha with h | h
    · exact .inl ⟨a, h, hc⟩
    · rw [List.mem_singleton.1 h] at hc; exact .inr hc
  · rintro (⟨a, ha, hc⟩ | hc)
    · exact ⟨a, List.mem_append_left _ ha, hc⟩
    · exact ⟨b, by simp, hc⟩

theorem not_in {O P : Nat} {pre post : List PBk} {b : PBk} (H : Tile O P (pre ++ b :: post)) {q : Nat} (hc : Cov b q) : ¬ In pre q := by
  rintro ⟨a, ha, hac⟩
  have := (List.pairwise_append.1 H.dj).2.2 a ha b (List.mem_cons_self ..)
  unfold Dj at this
  unfold Cov at hc hac
  omega

/-- The blocks of the lesser orders. -/
def blksTo (fl : Nat → List Nat) (o : Nat) : List PBk := (List.range o).flatMap fun k => (fl k).map fun p => (p, k)

theorem blksTo_top (fl : Nat → List Nat) (O : Nat) : blksTo fl (O + 1) = blks O fl := rfl
theorem blksTo_succ (fl : Nat → List Nat) (o : Nat) : blksTo fl (o + 1) = blksTo fl o ++ (fl o).map fun p => (p, o) := by
  unfold blksTo; rw [List.range_succ, List.flatMap_append]; simp

theorem blksTo_pre (fl : Nat → List Nat) {o O : Nat} (h : o ≤ O) : ∃ post, blks O fl = blksTo fl o ++ post := by
  obtain ⟨d, rfl⟩ : ∃ d, O = o + d := ⟨O - o, by omega⟩
  induction d with
  | zero => exact ⟨(fl o).map fun p => (p, o), by rw [← blksTo_top]; exact blksTo_succ fl o⟩
  | succ d ih =>
    obtain ⟨post, e⟩ := ih (by omega)
    refine ⟨post ++ (fl (o + d + 1)).map fun p => (p, o + d + 1), ?_⟩
    rw [← blksTo_top, show o + (d + 1) + 1 = (o + d + 1) + 1 by omega, blksTo_succ, blksTo_top, e, List.append_assoc]

/-- Which blocks begin where. -/
def Beg (fl : Nat → List Nat) (o i : Nat) (G : Nat → Int) : Prop := ∀ q k : Nat, G q = (k : Int) + 1 ↔ (k < o ∧ q ∈ fl k) ∨ (k = o ∧ q ∈ (fl o).take i)

theorem take_snoc {l : List Nat} {i : Nat} (hi : i < l.length) : l.take (i + 1) = l.take i ++ [l.getD i 0] := by
  rw [List.take_add_one, List.getD_eq_getElem?_getD, List.getElem?_eq_getElem hi]; rfl

theorem getD_mem {l : List Nat} {i : Nat} (hi : i < l.length) : l.getD i 0 ∈ l := by
  rw [List.getD_eq_getElem?_getD, List.getElem?_eq_getElem hi]; exact List.getElem_mem hi

section
variable {w₀ : World} {h : Heap} {K : Value → Heap → Prop} {c : Cfg} {Q : WW} {x : BU} {fl : Nat → List Nat} {l : List Bk} {bp : Option Addr} {bc : Nat}

theorem Beg.put {o i : Nat} {G : Nat → Int} (W : WI c x fl (lvB l)) (ho : o ≤ x.m.o) (B : Beg fl o i G) (hi : i < (fl o).length) : Beg fl o (i + 1) fun y => if y = (fl o).getD i 0 then (o : Int) + 1 else G y := by
  intro q k
  have hm := getD_mem hi
  rw [take_snoc hi]
  generalize (fl o).getD i 0 = p at hm
  simp only [List.mem_append, List.mem_singleton]
  by_cases e : q = p
  · subst e
    rw [if_pos rfl]
    constructor
    · intro hk
      exact .inr ⟨by omega, .inr rfl⟩
    · rintro (⟨hk, hq⟩ | ⟨hk, _⟩)
      · have := W.rep.one ho (Nat.le_of_lt (Nat.lt_of_lt_of_le hk ho)) hm hq
        omega
      · omega
  · rw [if_neg e, B q k]
    constructor
    · rintro (h | ⟨h1, h2⟩)
      · exact .inl h
      · exact .inr ⟨h1, .inl h2⟩
    · rintro (h | ⟨h1, h2 | h2⟩)
      · exact .inl h
      · exact .inr ⟨h1, h2⟩
      · exact absurd h2 e

theorem Beg.next {o : Nat} {G : Nat → Int} (B : Beg fl o (fl o).length G) : Beg fl (o + 1) 0 G := by
  intro q k
  rw [B q k, List.take_length]
  constructor
  · rintro (⟨h1, h2⟩ | ⟨rfl, h2⟩)
    · exact .inl ⟨by omega, h2⟩
    · exact .inl ⟨by omega, h2⟩
  · rintro (⟨h1, h2⟩ | ⟨_, h2⟩)
    · rcases Nat.lt_or_ge k o with h | h
      · exact .inl ⟨h, h2⟩
      · have : k = o := by omega
        subst this; exact .inr ⟨rfl, h2⟩
    · cases h2

theorem wb_cell (H : (wbR c Q x bp bc l).P h) {i : Nat} (hi : i < 10) : cellAt h ((⟨Q.wb, 0, none⟩ : Addr).add i) = some (wF c Q x.m.o x.m.n x.st.n i) := wd_cell H.1 hi

end
end Go.Proofs.Ytippbfnhgooepaa
