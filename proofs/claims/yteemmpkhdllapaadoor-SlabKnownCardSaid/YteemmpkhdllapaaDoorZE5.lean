/- slab: New, Partial, Open; croftlaw7: ints, begin. No condition. -/
import Derived.Test.YteemmpkhdllapaaDoorZE4
set_option linter.unusedSimpArgs false
set_option linter.unusedVariables false
namespace Go.Proofs.YteemmpkhdllapaaDoor
open Go.V Classical

def iL (xs : List Int) : Nat → Value := fun i => .int .i64 (xs.getD i 0)
def ptL (pt : Nat → Int) : List Int := (List.range 8).map pt
theorem ptL_len (pt : Nat → Int) : (ptL pt).length = 8 := by simp [ptL]
theorem iL_pt (pt : Nat → Int) {i : Nat} (hi : i < 8) : iL (ptL pt) i = .int .i64 (pt i) := by
  unfold iL ptL
  rw [List.getD_eq_getElem?_getD, List.getElem?_map, List.getElem?_range hi]; rfl

section
variable {w₀ : World} {h h' : Heap} {K : Value → Heap → Prop}

theorem slab_New_ok {pb : Nat} (hK : ∀ (h' : Heap) (sb : Nat), New h h' (blkR sb 9 (slF pb fun _ => -1)) → K (gptr sb) h') : CallV Tryd.prog w₀ F.slab_New [gptr pb] h K := by
  refine slab_New.call fun J2 hJ2 L3 hL3 => ?_
  have N0 := box_l h [gptr pb, .int .i64 0, .int .i64 0, .int .i64 0, .int .i64 0, .int .i64 0, .int .i64 0, .int .i64 0, .int .i64 0] T.T_slab_Slab
  generalize hh0 : Array.push h (.cells #[gptr pb, .int .i64 0, .int .i64 0, .int .i64 0, .int .i64 0, .int .i64 0, .int .i64 0, .int .i64 0, .int .i64 0] T.T_slab_Slab) = h0 at N0 ⊢
  have N1 : New h h0 (blkR h.size 9 (slF pb fun j => if j < 0 then -1 else 0)) := N0.conv (fun P => Blk.congr (f := lF _) P fun i hi => by
    have hi : i < 9 := hi
    have : i = 0 ∨ i = 1 ∨ i = 2 ∨ i = 3 ∨ i = 4 ∨ i = 5 ∨ i = 6 ∨ i = 7 ∨ i = 8 := by omega
    rcases this with rfl | rfl | rfl | rfl | rfl | rfl | rfl | rfl | rfl <;> rfl) fun _ e => e
  have loop : ∀ (d i : Nat) (hx : Heap), i + d = 8 → New h hx (blkR h.size 9 (slF pb fun j => if j < i then -1 else 0)) → L3 [gptr h.size, .int .i64 (i : Int)] hx := by
    intro d
    induction d with
    | zero =>
      intro i hx hi N
      have hi : i = 8 := by omega
      subst hi
      refine hL3 _ _ _ (iF (by decide) (hJ2 _ _ (hK hx h.size (N.conv (fun P => Blk.congr (f := slF pb fun j => if j < 8 then -1 else 0) P fun j hj => ?_) fun _ e => e))))
      cases j with
      | zero => rfl
      | succ j =>
        show Value.int .i64 (if j < 8 then -1 else 0) = .int .i64 (-1)
        rw [if_pos (by omega)]
    | succ d ih =>
      intro i hx hi N
      have B : Blk hx h.size 9 (slF pb fun j => if j < i then -1 else 0) := N.p
      have ea : (((⟨h.size, 0, none⟩ : Addr).add 1).add (Int.toNat (i : Int) * 1)) = ⟨h.size, i + 1, none⟩ := by
        rw [add_mk, add_mk, Int.toNat_natCast, Nat.mul_one, Nat.zero_add, Nat.add_comm]
      refine hL3 _ _ _ (iT (decide_eq_true (by omega)) ⟨_, rfl, by omega, by omega, ?_, ?_⟩)
      · rw [ea]; exact B.wr (by omega)
      rw [ea, show IntKind.wrap .i64 ((i : Int) + 1) = ((i + 1 : Nat) : Int) by rw [IntKind.wrap_i64]; omega]
      refine ih (i + 1) _ (by omega) (N.stp (Stp.set B (i + 1) _ fun j hj => ?_))
      cases j with
      | zero => rw [if_neg (by omega)]; rfl
      | succ j =>
        show _ = Value.int .i64 (if j < i + 1 then -1 else 0)
        by_cases e : j = i
        · subst e; rw [if_pos rfl, if_pos (by omega)]
        · rw [if_neg (by omega)]
          show Value.int .i64 (if j < i then -1 else 0) = _
          by_cases e2 : j < i
          · rw [if_pos e2, if_pos (by omega)]
          · rw [if_neg e2, if_neg (by omega)]
  exact loop 8 0 h0 (by omega) N1

theorem Partial_ok {sb pb : Nat} {pt : Nat → Int} (B : Blk h sb 9 (slF pb pt)) (hK : ∀ (h' : Heap) (q : Option Addr), New h h' (slR q 8 8 1 (iL (ptL pt))) → K (.slice q 8 8) h') :
    CallV Tryd.prog w₀ F.slab_Slab_Partial [gptr sb] h K := by
  have N0 := sl_make h [.int .i64 0] T.T_int 8 8 (by omega)
  have R : Row h (some ⟨sb, 1, none⟩) 8 (fun i => slF pb pt (1 + i)) := B.row 1 8 (by omega)
  have R1 := R.upd (h' := h.push (.cells (List.toArray (zrow [.int .i64 0] 8)) T.T_int)) N0.u (fun a e => id)
  obtain ⟨b, eb, w, S⟩ := sl_sets N0.p 0 (lst 8 fun i => slF pb pt (1 + i)) (by simp [lst]) (by simp [lst])
  have hl : (lst 8 fun i => slF pb pt (1 + i)).length = 8 := by simp [lst]
  refine slab_Slab_Partial.call ⟨by decide, by decide, by decide, _, rfl, by decide, by decide, by decide, lst 8 (fun i => slF pb pt (1 + i)), ⟨by rw [hl]; rfl, R1.rowAt, fun v hv => ?_, fun a ea => ?_⟩, ?_⟩
  · obtain ⟨i, hi, e⟩ := List.mem_map.1 hv
    have := List.mem_range.1 hi
    rw [← e, Nat.add_comm]
    rfl
  · have : a = ⟨b, 0, none⟩ := Option.some.inj (ea.symm.trans eb)
    rw [this]; exact w
  · have eb' : b = h.size := by
      have := Option.some.inj eb
      simpa using this.symm
    subst eb'
    refine hK _ (some ⟨h.size, 0, none⟩) ((N0.stp S).conv (fun P => sl_congr P fun i hi => ?_) fun _ e => e)
    have hi : i < 8 := by omega
    rw [hl, if_pos ⟨by omega, by omega⟩, Nat.sub_zero, lst_getD hi, iL_pt pt hi, Nat.add_comm]
    rfl

theorem Open_ok {pb cp : Nat} {p : Option Addr} {pt : Nat → Int} (R : Row h p 8 (iL (ptL pt))) (hK : ∀ (h' : Heap) (sb : Nat), New h h' (blkR sb 9 (slF pb pt)) → K (.tuple #[gptr sb, .int .i64 0]) h') :
    CallV Tryd.prog w₀ F.slab_Open [gptr pb, .slice p 8 cp] h K := by
  have N0 := box_l h [gptr pb, .int .i64 0, .int .i64 0, .int .i64 0, .int .i64 0, .int .i64 0, .int .i64 0, .int .i64 0, .int .i64 0] T.T_slab_Slab
  have R1 := R.upd N0.u (fun a e => id)
  have hl : (lst 8 (iL (ptL pt))).length = 8 := by simp [lst]
  have S := Stp.sets N0.p (lst 8 (iL (ptL pt))) 1 0 (g := slF pb pt) fun j hj => by
    have hj : j < 9 := hj
    rw [hl]
    cases j with
    | zero => rw [if_neg (by omega)]; rfl
    | succ j =>
      rw [if_pos ⟨by omega, by omega⟩, show j + 1 - (1 + 0) = j by omega, lst_getD (by omega), iL_pt pt (by omega)]
      rfl
  refine slab_Open.call (iF rfl ⟨_, rfl, by decide, by decide, by decide, lst 8 (iL (ptL pt)), ⟨by rw [hl]; rfl, R1.rowAt, fun v hv => ?_, fun a ea => ?_⟩, hK _ h.size (N0.stp S)⟩)
  · obtain ⟨i, hi, e⟩ := List.mem_map.1 hv
    rw [← e]; rfl
  · have : a = ⟨h.size, 1, none⟩ := (Option.some.inj ea).symm
    rw [this, hl]
    intro j hj
    rw [add_mk]
    exact Blk.wr (f := lF _) N0.p (by show 1 + (0 + j) < 9; omega)

theorem ints7_ok {xs ys : List Int} {p q : Option Addr} {cp cq : Nat} (hx : xs.length < 4611686018427387904) (P : Row h p xs.length (iL xs)) (Q : Row h q ys.length (iL ys)) (hK : K (.bool (decide (xs = ys))) h) :
    CallV Tryd.prog w₀ F.croftlaw7_ints [.slice p xs.length cp, .slice q ys.length cq] h K := by
  refine croftlaw7_ints.call ?_
  unfold croftlaw7_ints.vc
  by_cases hl : xs.length = ys.length
  · refine iF (by simp [hl]) fun J1 hJ1 L2 hL2 => ?_
    have loop : ∀ (k i : Nat), i + k = xs.length → (∀ j, j < i → xs[j]? = ys[j]?) → L2 [.slice p xs.length cp, .slice q ys.length cq, .int .i64 ((i : Nat) : Int)] h := by
      intro k
      induction k with
      | zero =>
        intro i hi he
        refine hL2 _ _ _ _ _ _ _ _ (iF (decide_eq_false (by omega)) (hJ1 _ ?_))
        have : xs = ys := List.ext_getElem? fun j => by
          rcases Nat.lt_or_ge j i with h1 | h1
          · exact he j h1
          · rw [List.getElem?_eq_none (by omega), List.getElem?_eq_none (by omega)]
        rwa [decide_eq_true this] at hK
      | succ k ih =>
        intro i hi he
        refine hL2 _ _ _ _ _ _ _ _ (iT (decide_eq_true (by omega)) ?_)
        rcases P with P | ⟨b, o, rfl, P⟩
        · omega
        rcases Q with Q | ⟨b', o', rfl, Q⟩
        · omega
        refine ⟨_, rfl, by omega, Int.ofNat_lt.2 (by omega), xs.getD i 0, ?_, _, rfl, by omega, Int.ofNat_lt.2 (by omega), ys.getD i 0, ?_, ?_⟩
        · simp only [add_mk, Int.toNat_natCast, Nat.mul_one]; exact P i (by omega)
        · simp only [add_mk, Int.toNat_natCast, Nat.mul_one]; exact Q i (by omega)
        by_cases hv : xs.getD i 0 = ys.getD i 0
        · refine iF (eq_b hv) ?_
          rw [IntWalk.i64_in _ (by omega)]
          have := ih (i + 1) (by omega) fun j hj => by
            rcases Nat.lt_or_ge j i with h1 | h1
            · exact he j h1
            · have : j = i := by omega
              subst this
              rw [List.getD_eq_getElem?_getD, List.getD_eq_getElem?_getD, List.getElem?_eq_getElem (by omega), List.getElem?_eq_getElem (by omega)] at hv
              rw [List.getElem?_eq_getElem (by omega), List.getElem?_eq_getElem (by omega)]
              simpa using hv
          simpa using this
        · refine iT (ne_b hv) ?_
          have : xs ≠ ys := fun e => hv (by rw [e])
          rwa [decide_eq_false this] at hK
    exact loop xs.length 0 (by omega) fun j hj => by omega
  · refine iT (by simpa using fun e => hl (by omega)) ?_
    have : xs ≠ ys := fun e => hl (by rw [e])
    rwa [decide_eq_false this] at hK

/-! ### The world -/
noncomputable def usual7 (a b d : Int) : Cfg := if Cfg.Good ⟨a, b, d⟩ then ⟨a, b, d⟩ else ⟨65536, 1, 1⟩

theorem good1 : Cfg.Good ⟨65536, 1, 1⟩ := good_iff.2 (by decide)
theorem usual7_good (a b d : Int) : (usual7 a b d).Good := by
  unfold usual7
  split
  · assumption
  · exact good1
theorem usual7_u64 {a b d : Int} (ha : U64 a) : U64 (usual7 a b d).base := by
  unfold usual7
  split
  · exact ha
  · show U64 65536; unfold U64; omega

structure DV where
  fp : Option Addr
  fc : Nat
  qp : Option Addr
  qc : Nat

abbrev w7L (c : Cfg) (Q : SL) (l : List Value) : List Value := [.int .u64 c.base, .int .i64 c.limit, .int .i64 c.order, gptr Q.pl.pb, gptr Q.sb] ++ l
abbrev w7R (c : Cfg) (wb : Nat) (l : List Value) (Q : SL) (x : BU) (pt : Nat → Int) : Res := andR (lR wb (w7L c Q l)) (sR c Q x pt)

theorem begin7_ok {a b d : Int} (ha : U64 a)
    (hK : ∀ (h' : Heap) (wb : Nat) (Q : SL) (on : Nat) (fp qp : Option Addr) (fc qc : Nat), (usual7 a b d).order = on → New h h' (andR (w7R (usual7 a b d) wb (d7 (usual7 a b d).base (usual7 a b d).limit on 0 fp (on + 1) fc none 0 0 none 0 0 qp 8 qc) Q (BU0 (usual7 a b d)) fun _ => -1)
      (andR (slR fp (on + 1) fc 1 fun _ => .slice none 0 0) (slR qp 8 qc 1 fun _ => .slice none 0 0))) → K (gptr wb) h') :
    CallV Tryd.prog w₀ F.croftlaw7_begin [.agg #[.int .u64 a, .int .i64 b, .int .i64 d]] h K := by
  refine croftlaw7_begin.call fun J2 hJ2 => ?_
  have hu := usual7_u64 (b := b) (d := d) ha
  have g := usual7_good a b d
  obtain ⟨on, hon⟩ : ∃ on : Nat, (usual7 a b d).order = on := ⟨(usual7 a b d).order.toNat, by have := g.o0; omega⟩
  have ho8 : on ≤ 8 := by have := g.o8; omega
  have tail : ∀ (hx : Heap) (bx : Nat), Hold h hx [lR bx [.int .u64 (usual7 a b d).base, .int .i64 (usual7 a b d).limit, .int .i64 (usual7 a b d).order]] → J2 [gptr bx] hx := by
    intro hx bx I
    generalize usual7 a b d = c at hK hu g hon I
    have B := I.at 0
    refine hJ2 _ _ ⟨_, cell_l0 B, _, cell_l B 1, _, cell_l B 2, region_New_ok (a := c.base) (b := c.limit) (d := c.order) hu (fun hn => absurd g hn) fun _ h1 P N1 => ⟨_, _, rfl, fun J4 hJ4 => pF rfl (hJ4 _ _ (iF rfl ?_))⟩⟩
    have I1 := I.new N1
    refine slab_New_ok fun h2 sb N2 => ⟨_, rfl, fun J6 hJ6 => pF rfl ⟨_, rfl, ?_⟩⟩
    have I2 := I1.new N2
    have HP := I2.at 1
    refine ground_Space_ok HP ⟨_, rfl, hJ6 _ _ fun J7 hJ7 => pF rfl ⟨_, rfl, ground_Map_ok HP ⟨_, rfl, hJ7 _ _ fun J8 hJ8 => pF rfl ⟨_, rfl, ground_Buddy_ok HP ⟨_, rfl, hJ8 _ _ (iF rfl ?_)⟩⟩⟩⟩⟩
    have B := I2.at 2
    refine ⟨_, cell_l0 B, _, cell_l B 1, _, cell_l B 2, _, cell_l0 B, _, cell_l B 1, _, cell_l B 2, ?_⟩
    rw [hon]
    refine ref7_New_ok ho8 fun h3 fp qp fc qc N3 => ⟨_, _, _, _, _, _, _, _, _, _, _, _, _, _, _, _, _, rfl, ?_⟩
    have I3 := I2.new N3
    have B := I3.at 3
    rw [← hon]
    refine ⟨cell_l0 B, cell_l B 1, cell_l B 2, ?_⟩
    have N4 := box_l h3 (w7L c ⟨sb, P⟩ (d7 c.base c.limit on 0 fp (on + 1) fc none 0 0 none 0 0 qp 8 qc)) T.T_croftlaw7_world
    have I4 := I3.new N4
    rw [hon]
    have N4' : w7L c ⟨sb, P⟩ (d7 c.base c.limit on 0 fp (on + 1) fc none 0 0 none 0 0 qp 8 qc) = [.int .u64 c.base, .int .i64 c.limit, .int .i64 (on : Int), gptr P.pb, gptr sb] ++ d7 c.base c.limit on 0 fp (on + 1) fc none 0 0 none 0 0 qp 8 qc := by
      show ([.int .u64 c.base, .int .i64 c.limit, .int .i64 c.order, gptr P.pb, gptr sb] : List Value) ++ _ = _
      rw [hon]
    rw [N4'] at I4
    refine hK _ h3.size ⟨sb, P⟩ on fp qp fc qc hon ?_
    unfold w7R
    rw [N4']
    -- world, doc, slab, pool, box
    have I5 := (I4.sub (rs' := [_, _, _, _]) (.cons_cons _ (.cons_cons _ (.cons_cons _ (.cons_cons _ (.cons _ .slnil))))))
    exact I5.front3.front4.swap.join.swap.join.join.toNew
  have N0 := box_l h [.int .u64 a, .int .i64 b, .int .i64 d] T.T_api_Config
  have I0 := (Hold.nil h).new N0
  have B := I0.at 0
  refine ⟨_, cell_l0 B, _, cell_l B 1, _, cell_l B 2, ref2_May_ok ha fun h1 u1 => ⟨_, rfl, ?_⟩⟩
  have I1 := I0.quiet u1
  by_cases hg : Cfg.Good ⟨a, b, d⟩
  · have e : usual7 a b d = ⟨a, b, d⟩ := by unfold usual7; rw [if_pos hg]
    refine iF (by rw [decide_eq_true hg]; rfl) (tail h1 _ ?_)
    rw [e]; exact I1
  · have e : usual7 a b d = ⟨65536, 1, 1⟩ := by unfold usual7; rw [if_neg hg]
    obtain ⟨w2, S2⟩ := assign_l (I1.at 0) [.int .u64 65536, .int .i64 1, .int .i64 1]
    have I2 := I1.step 0 S2
    refine iT (by rw [decide_eq_false hg]; rfl) ⟨w2, tail _ _ ?_⟩
    rw [e]; exact I2
end
end Go.Proofs.YteemmpkhdllapaaDoor
