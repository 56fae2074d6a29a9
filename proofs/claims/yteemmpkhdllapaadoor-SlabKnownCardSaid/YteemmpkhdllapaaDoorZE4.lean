/- slab: Partial, New, Open; croftref7: New; croftlaw7: ints, begin. No condition. -/
import Derived.Test.YteemmpkhdllapaaDoorZE3
import Derived.Test.YteemmpkhdllapaaDoorZBT
import Derived.Test.YteemmpkhdllapaaDoorZG4
import Derived.Test.YteemmpkhdllapaaDoorZG5
set_option linter.unusedSimpArgs false
set_option linter.unusedVariables false
namespace Go.Proofs.YteemmpkhdllapaaDoor
open Go.V Classical

/-! ### Blocks whose cells are a list -/
def lF (l : List Value) : Nat → Value := fun i => l.getD i undef
abbrev lR (b : Nat) (l : List Value) : Res := blkR b l.length (lF l)

theorem box_l (h : Heap) (l : List Value) (T : TypeId) : New h (h.push (.cells l.toArray T)) (lR h.size l) :=
  ⟨push_upd _ _ _, blk_list h l T _ rfl, fun b e => Nat.le_of_eq (Eq.symm e)⟩

theorem cell_l0 {h : Heap} {b : Nat} {l : List Value} (B : (lR b l).P h) {v : Value} (hv : l[0]? = some v := by rfl) : cellAt h (⟨b, 0, none⟩ : Addr) = some v := by
  have hl : 0 < l.length := (List.getElem?_eq_some_iff.1 hv).1
  have := Blk.cell (f := lF l) B (i := 0) hl
  rw [this]
  unfold lF
  rw [List.getD_eq_getElem?_getD, hv]; rfl

theorem cell_l {h : Heap} {b : Nat} {l : List Value} (B : (lR b l).P h) (i : Nat) {v : Value} (hv : l[i]? = some v := by rfl) : cellAt h ((⟨b, 0, none⟩ : Addr).add i) = some v := by
  have hl : i < l.length := (List.getElem?_eq_some_iff.1 hv).1
  have := Blk.cell (f := lF l) B (i := i) hl
  rw [add_mk, Nat.zero_add, this]
  unfold lF
  rw [List.getD_eq_getElem?_getD, hv]; rfl

theorem wr_l {h : Heap} {b : Nat} {l : List Value} (B : (lR b l).P h) (i : Nat) (hi : i < l.length := by simp) : Wr h ((⟨b, 0, none⟩ : Addr).add i) := by
  rw [add_mk, Nat.zero_add]; exact Blk.wr (f := lF l) B hi

theorem assign_l {h : Heap} {b : Nat} {l : List Value} (B : (lR b l).P h) (l' : List Value) (hl : l'.length = l.length := by rfl) :
    WrN h ⟨b, 0, none⟩ l.length ∧ Stp h (setCs h ⟨b, 0, none⟩ 0 l') (lR b l) (lR b l') := by
  refine ⟨fun j hj => by rw [add_mk]; exact Blk.wr (f := lF l) B (by omega), ?_⟩
  have S := Stp.sets (f := lF l) B l' 0 0 (g := lF l') fun j hj => by
    rw [if_pos ⟨by omega, by omega⟩, Nat.add_zero, Nat.sub_zero]; rfl
  unfold lR
  rw [hl]
  exact S

theorem set_l {h : Heap} {b : Nat} {l : List Value} (B : (lR b l).P h) (i : Nat) (v : Value) : Stp h (setC h ((⟨b, 0, none⟩ : Addr).add i) v) (lR b l) (lR b (l.set i v)) := by
  rw [add_mk, Nat.zero_add]
  have S := Stp.set (f := lF l) B i v (g := lF (l.set i v)) fun j hj => by
    unfold lF
    rw [List.getD_eq_getElem?_getD, List.getD_eq_getElem?_getD, List.getElem?_set]
    by_cases e : j = i
    · subst e; rw [if_pos rfl, if_pos rfl, if_pos hj]; rfl
    · rw [if_neg e, if_neg (fun e' => e e'.symm)]
  unfold lR
  rw [List.length_set]
  exact S

abbrev d7 (a b on P : Int) (fp : Option Addr) (fn fc : Nat) (vp : Option Addr) (vn vc : Nat) (pp : Option Addr) (pn pc : Nat) (qp : Option Addr) (qn qc : Nat) : List Value :=
  [.int .u64 a, .int .i64 b, .int .i64 on, .int .i64 on, .int .i64 P, .slice fp fn fc, .slice vp vn vc, .slice pp pn pc, .slice qp qn qc]
abbrev z7 : List Value := [.int .u64 0, .int .i64 0, .int .i64 0, .int .i64 0, .int .i64 0, .slice none 0 0, .slice none 0 0, .slice none 0 0, .slice none 0 0]

section
variable {w₀ : World} {h h' : Heap} {K : Value → Heap → Prop}

theorem ref7_New_ok {a b : Int} {on : Nat} (ho : on ≤ 8)
    (hK : ∀ (h' : Heap) (fp qp : Option Addr) (fc qc : Nat), New h h' (andR (slR fp (on + 1) fc 1 fun _ => .slice none 0 0) (slR qp 8 qc 1 fun _ => .slice none 0 0)) →
      K (.agg (d7 a b on 0 fp (on + 1) fc none 0 0 none 0 0 qp 8 qc).toArray) h') :
    CallV Tryd.prog w₀ F.croftref7_New [.agg #[.int .u64 a, .int .i64 b, .int .i64 (on : Int)]] h K := by
  refine croftref7_New.call fun J3 hJ3 => ?_
  have mid : ∀ (hx : Heap) (b2 b3 : Nat) (fp : Option Addr) (fc : Nat), Hold h hx [lR b3 (d7 a b on 0 fp (on + 1) fc none 0 0 none 0 0 none 0 0), lR b2 z7, slR fp (on + 1) fc 1 fun _ => .slice none 0 0] → J3 [gptr b2, gptr b3] hx := by
    intro hx b2 b3 fp fc I0
    refine hJ3 _ _ _ fun J4 hJ4 L6 hL6 => ?_
    have I1 : Hold h hx [slR none 0 0 1 (fun _ => .slice none 0 0), lR b3 (d7 a b on 0 fp (on + 1) fc none 0 0 none 0 0 none 0 0), lR b2 z7, slR fp (on + 1) fc 1 fun _ => .slice none 0 0] :=
      I0.new ⟨Upd.refl _ _, sl_nil _ _ _, fun b e => absurd e (sl_nil_fp b)⟩
    have key : ∀ (d i : Nat) (y : Option Addr) (cap : Nat) (hy : Heap), i + d = 8 → Hold h hy [slR y i cap 1 (fun _ => .slice none 0 0), lR b3 (d7 a b on 0 fp (on + 1) fc none 0 0 none 0 0 y i cap), lR b2 z7, slR fp (on + 1) fc 1 fun _ => .slice none 0 0] →
        L6 [gptr b2, gptr b3, .int .i64 (i : Int)] hy := by
      intro d
      induction d with
      | zero =>
        intro i y cap hy hi I
        have hi : i = 8 := by omega
        subst hi
        have B := I.at 1
        refine hL6 _ _ _ _ (iF (by decide) (hJ4 _ _ _ ⟨_, cell_l0 B, _, cell_l B 1, _, cell_l B 2, _, cell_l B 3, _, cell_l B 4, _, _, _, cell_l B 5, _, _, _, cell_l B 6, _, _, _, cell_l B 7, _, _, _, cell_l B 8, ?_⟩))
        obtain ⟨w5, S5⟩ := assign_l (I.at 2) (d7 a b on 0 fp (on + 1) fc none 0 0 none 0 0 y 8 cap)
        have I5 := I.step 2 S5
        refine ⟨w5, ?_⟩
        have B := I5.at 2
        refine ⟨_, cell_l0 B, _, cell_l B 1, _, cell_l B 2, _, cell_l B 3, _, cell_l B 4, _, _, _, cell_l B 5, _, _, _, cell_l B 6, _, _, _, cell_l B 7, _, _, _, cell_l B 8, hK _ fp y fc cap ?_⟩
        exact (I5.sub (rs' := [slR y 8 cap 1 (fun _ => .slice none 0 0), slR fp (on + 1) fc 1 fun _ => .slice none 0 0]) (.cons_cons _ (.cons _ (.cons _ (.cons_cons _ .slnil))))).swap.join.toNew
      | succ d ih =>
        intro i y cap hy hi I
        have B := I.at 1
        refine hL6 _ _ _ _ (iT (decide_eq_true (by omega)) ⟨_, _, _, cell_l B 8, ?_⟩)
        obtain ⟨os, q1, q2⟩ := sl_app1 (zs := [.slice none 0 0]) (v := .slice none 0 0) (b := 24) (e := T.T_sl_int) (T := T.T_sl_int) (I.at 0) rfl rfl (by omega)
        refine ⟨os, _, q1, fun p' c' h29 hres => ?_⟩
        have I3 := I.step 0 (R := slR y i cap 1 (fun _ => .slice none 0 0)) (R' := slR p' (i + 1) c' 1 (fun _ => .slice none 0 0)) ((q2 p' c' h29 hres).conv (fun P => sl_congr P fun j hj => by split <;> rfl) fun _ e => e)
        have S5 := set_l (I3.at 1) 8 (.slice p' (i + 1) c')
        have I5 := I3.step 1 S5
        refine ⟨wr_l (I3.at 1) 8, ?_⟩
        rw [show IntKind.wrap .i64 ((i : Int) + 1) = ((i + 1 : Nat) : Int) by rw [IntKind.wrap_i64]; omega]
        exact ih (i + 1) p' c' _ (by omega) I5
    exact key 8 0 none 0 hx (by omega) I1
  have N0 := box_l h [.int .u64 a, .int .i64 b, .int .i64 (on : Int)] T.T_api_Config
  have J0 := (Hold.nil h).new N0
  generalize hh0 : Array.push h (.cells #[.int .u64 a, .int .i64 b, .int .i64 (on : Int)] T.T_api_Config) = h0 at N0 J0 ⊢
  have N1 := box_l h0 z7 T.T_croftref7_Slab
  have J1 := J0.new N1
  generalize hh1 : Array.push h0 (.cells #[.int .u64 0, .int .i64 0, .int .i64 0, .int .i64 0, .int .i64 0, .slice none 0 0, .slice none 0 0, .slice none 0 0, .slice none 0 0] T.T_croftref7_Slab) = h1 at N1 J1 ⊢
  have J1 : Hold h h1 [lR h0.size z7, lR h.size [.int .u64 a, .int .i64 b, .int .i64 (on : Int)]] := J1
  have B := J1.at 1
  refine ⟨_, cell_l0 B, _, cell_l B 1, _, cell_l B 2, _, cell_l B 2, ?_, ?_⟩
  · refine ref5_New_ok ho fun h8 fp fc N8 => ⟨_, _, _, _, _, _, _, _, rfl, ?_⟩
    have J8 := J1.new N8
    have B := J8.at 2
    refine ⟨cell_l0 B, cell_l B 1, cell_l B 2, ?_⟩
    have N9 := box_l h8 z7 T.T_croftref7_Slab
    have J9 := J8.new N9
    generalize hh9 : Array.push h8 (.cells #[.int .u64 0, .int .i64 0, .int .i64 0, .int .i64 0, .int .i64 0, .slice none 0 0, .slice none 0 0, .slice none 0 0, .slice none 0 0] T.T_croftref7_Slab) = h9 at N9 J9 ⊢
    have J9 : Hold h h9 [lR h8.size z7, slR fp (on + 1) fc 1 (fun _ => .slice none 0 0), lR h0.size z7, lR h.size [.int .u64 a, .int .i64 b, .int .i64 (on : Int)]] := J9
    have B := J9.at 3
    refine ⟨cell_l B 2, cell_l0 B, cell_l B 1, cell_l B 2, ?_⟩
    obtain ⟨w5, S5⟩ := assign_l (J9.at 0) (d7 a b on 0 fp (on + 1) fc none 0 0 none 0 0 none 0 0)
    have J10 := J9.step 0 S5
    refine ⟨w5, mid _ h0.size h8.size fp fc ?_⟩
    exact (J10.sub (rs' := [lR h8.size (d7 a b on 0 fp (on + 1) fc none 0 0 none 0 0 none 0 0), slR fp (on + 1) fc 1 (fun _ => .slice none 0 0), lR h0.size z7]) (.cons_cons _ (.cons_cons _ (.cons_cons _ (.cons _ .slnil))))).swap2
  · have N9 := box_l h1 z7 T.T_croftref7_Slab
    have J9 := J1.new N9
    generalize hh9 : Array.push h1 (.cells #[.int .u64 0, .int .i64 0, .int .i64 0, .int .i64 0, .int .i64 0, .slice none 0 0, .slice none 0 0, .slice none 0 0, .slice none 0 0] T.T_croftref7_Slab) = h9 at N9 J9 ⊢
    have J9 : Hold h h9 [lR h1.size z7, lR h0.size z7, lR h.size [.int .u64 a, .int .i64 b, .int .i64 (on : Int)]] := J9
    have B := J9.at 2
    refine ⟨cell_l B 2, cell_l0 B, cell_l B 1, cell_l B 2, ?_⟩
    refine ref5_New_ok ho fun h8 fp fc N8 => ⟨_, _, _, _, _, _, _, _, rfl, ?_⟩
    have J8 := J9.new N8
    have B := J8.at 3
    refine ⟨cell_l0 B, cell_l B 1, cell_l B 2, ?_⟩
    obtain ⟨w5, S5⟩ := assign_l (J8.at 1) (d7 a b on 0 fp (on + 1) fc none 0 0 none 0 0 none 0 0)
    have J10 := J8.step 1 S5
    refine ⟨w5, mid _ h0.size h1.size fp fc ?_⟩
    exact (J10.sub (rs' := [slR fp (on + 1) fc 1 (fun _ => .slice none 0 0), lR h1.size (d7 a b on 0 fp (on + 1) fc none 0 0 none 0 0 none 0 0), lR h0.size z7]) (.cons_cons _ (.cons_cons _ (.cons_cons _ (.cons _ .slnil))))).swap.swap2
end
end Go.Proofs.YteemmpkhdllapaaDoor
