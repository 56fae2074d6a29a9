/- Chapter 2's law on what is kept. No condition. -/
import Derived.Test.YtpninapdjcggoaaWA
set_option linter.unusedSimpArgs false
set_option linter.unusedVariables false
namespace Go.Proofs.Ytpninapdjcggoaa
open Go.V Classical

theorem MemKept_law {w : World} {p : Option Addr} {n cp : Nat} (hs : SRow w.heap .u8 p n cp) :
    CallV Try.prog w F.croftlaw2_MemKept [.slice p n cp] w.heap fun v h' => v = .bool true ∧ Upd NoB w.heap h' := by
  obtain ⟨f, hnc, hc, hr, hf⟩ := SRow.u8 hs
  refine croftlaw2_MemKept.call ?_
  unfold croftlaw2_MemKept.vc
  refine grown_ok (k := 2) (by omega) fun h1 s Z u1 hz S1 => ⟨_, rfl, ?_⟩
  refine grown_ok (k := 2) (by omega) fun h2 s' Z' u2 hz' T2 => ⟨_, rfl, ?_⟩
  have S2 := S1.upd u2 fun _ _ => id
  have u02 : Upd NoB w.heap h2 := u1.nx u2 fun _ e _ => e
  have nz : ∀ {S : Nat → Prop} {ha hb : Heap}, (∀ b, S b → w.heap.size ≤ b) → Upd NoB w.heap ha → Upd S ha hb → Upd NoB w.heap hb := fun hz' u u' => u.nx u' fun b e hb => absurd (hz' b e) (by omega)
  have n0 : ∀ b, NoB b → w.heap.size ≤ b := fun _ e => e.elim
  have hzw : ∀ b, Z b → w.heap.size ≤ b := hz
  intro J3 k3
  refine pF rfl (k3 _ _ (iF rfl ?_))
  intro J4 k4
  have tn : ∀ q : Int, There G3 2 1048576 q ↔ q = 0 ∨ q ≤ 8192 := fun q => by
    show (q = 0 ∨ ((1048576 : Int) ≤ 1048576 ∧ (1048576 : Int) - 1048576 + q ≤ ((2 * 4096 : Nat) : Int))) ↔ _
    omega
  have t0 : ((1048576 : Int) - G3.base).toNat = 0 := rfl
  have main : ∀ (q : Option Addr) (m cq : Nat), m ≤ 4096 → m ≤ cq → m ≤ cp → Row w.heap q m (fun i => .int .u8 (f i)) → J4 [.slice q m cq, .pointer (some ⟨s, 0, none⟩), .pointer (some ⟨s', 0, none⟩)] h2 := by
    intro q m cq hm hmc hmp hrow
    apply k4
    have e1 : IntKind.wrap .i64 ((m : Int) + 8) = ((m + 8 : Nat) : Int) := by rw [IntKind.wrap_i64]; omega
    have e2 : IntKind.wrap .u64 ((m : Nat) : Int) = m := by rw [IntKind.wrap_u64]; omega
    have z0 : Int.toNat (0 : Int) = 0 := rfl
    have tm : Int.toNat (m : Int) = m := by omega
    have tm8 : Int.toNat ((m + 8 : Nat) : Int) = m + 8 := by omega
    have tm4 : Int.toNat ((m + 4 : Nat) : Int) - m = 4 := by omega
    have tmm : Int.toNat ((m + 4 : Nat) : Int) = m + 4 := by omega
    have s4 : m + 4 - m = 4 := by omega
    have s8 : m + 8 - m = 8 := by omega
    simp only [e1, e2, z0, Nat.zero_add, tm, tm8, tmm, s4, s8]
    refine ⟨by omega, by omega, by omega, ?_⟩
    -- l := make([]byte, 0, m+8)
    let A := h2.size
    let hA : Heap := Array.push h2 (.cells (List.toArray (zrow [(.int .u8 (0 : Int))] (m + 8))) T.T_uint8)
    have uA : Upd NoB h2 hA := push_upd _ _ _
    have BA : Blk hA A (m + 8) (fun _ => .int .u8 0) := Blk.new' _ _ _ (m + 8) (fun _ => .int .u8 0) (by simp [zrow_length]) fun j hj => by
      have := zrow_get [(.int .u8 (0 : Int))] (m + 8) j (by simpa using hj)
      simp only [List.length_cons, List.length_nil, Nat.zero_add, Nat.mod_one, List.getElem?_cons_zero] at this
      simpa using this
    have rowA : Row hA q m (fun i => .int .u8 (f i)) := (hrow.upd u02 fun _ _ => id).upd uA fun _ _ => id
    have oneB : ∀ (k : Nat) (g : Nat → Int), ∀ v ∈ lst k (fun i => Value.int .u8 (g i)), oneC v = true := by
      intro k g v hv
      simp [lst] at hv
      obtain ⟨x, _, rfl⟩ := hv
      rfl
    refine ⟨[], lst m (fun i => .int .u8 (f i)), ⟨by simp, by intro j v hv; simp at hv, by simp, rowA.rowAt, fun _ => ⟨oneB _ _, ?_⟩, fun e => absurd e (by omega)⟩, ?_⟩
    · intro a ha j hj
      cases ha
      rw [add_mk, add_mk]
      exact BA.wr (by simp at hj; omega)
    intro p1 c1 h3 hres
    rcases hres with ⟨_, rfl, rfl, hres⟩ | ⟨e, _⟩
    case inr => exact absurd e (by omega)
    have hres : h3 = setCs hA ⟨A, 0, none⟩ 0 (lst m fun i => .int .u8 (f i)) := by
      rw [hres]
      simp only [Option.map_some, Nat.zero_mul, add_mk, wrH]
      rfl
    have u3 : Upd (fun b => b = A) hA h3 := by rw [hres]; exact setCs_upd _ _ _ _
    have B3 : Blk h3 A (m + 8) (fun j => .int .u8 (if j < m then f j else 0)) := by
      rw [hres]
      refine (BA.sets _ 0 0).congr fun j hj => ?_
      rw [lst_length, Nat.zero_add, Nat.zero_add, Nat.sub_zero]
      by_cases c : j < m
      · rw [if_pos ⟨Nat.zero_le _, c⟩, if_pos c, lst_getD c]
      · rw [if_neg (fun e => c e.2), if_neg c]
    have hA2 : A < h3.size := B3.lt
    -- wide := append(l, 201, ..)
    let hB : Heap := Array.push h3 (.cells #[(.int .u8 (201 : Int)), (.int .u8 (201 : Int)), (.int .u8 (201 : Int)), (.int .u8 (201 : Int))] T.T_uint8)
    have uB : Upd NoB h3 hB := push_upd _ _ _
    have BB : Blk hB h3.size 4 (fun _ => .int .u8 201) := (Blk.new h3 #[(.int .u8 (201 : Int)), (.int .u8 (201 : Int)), (.int .u8 (201 : Int)), (.int .u8 (201 : Int))] T.T_uint8).congr fun j hj => by
      have : j < 4 := hj
      have : j = 0 ∨ j = 1 ∨ j = 2 ∨ j = 3 := by omega
      rcases this with rfl | rfl | rfl | rfl <;> rfl
    have B3B := B3.upd uB id
    have rowL : Row hB (some ⟨A, 0, none⟩) m (fun i => .int .u8 (f i)) := (B3B.row 0 m (by omega)).congr fun i hi => by rw [Nat.zero_add, if_pos hi]
    refine ⟨lst m (fun i => .int .u8 (f i)), lst 4 (fun _ => .int .u8 201), ⟨by simp, rowL.rowAt, by simp, ((BB.row 0 4 (by omega)).congr fun i hi => rfl).rowAt, fun _ => ⟨oneB 4 (fun _ => 201), ?_⟩, fun e => absurd e (by omega)⟩, ?_⟩
    · intro a ha j hj
      cases ha
      rw [add_mk, add_mk]
      exact B3B.wr (by simp at hj; omega)
    intro p2 c2 h4 hres
    rcases hres with ⟨_, rfl, rfl, hres⟩ | ⟨e, _⟩
    case inr => exact absurd e (by omega)
    have hres : h4 = setCs hB ⟨A, m, none⟩ 0 (lst 4 fun _ => .int .u8 201) := by
      rw [hres]
      simp only [Option.map_some, List.length_cons, List.length_nil, Nat.mul_one, Nat.zero_add, add_mk, wrH]
      rfl
    have u4 : Upd (fun b => b = A) hB h4 := by rw [hres]; exact setCs_upd _ _ _ _
    have B4 : Blk h4 A (m + 8) (fun j => .int .u8 (if j < m then f j else if j < m + 4 then 201 else 0)) := by
      rw [hres]
      refine (B3B.sets _ m 0).congr fun j hj => ?_
      rw [lst_length, Nat.add_zero]
      by_cases c : j < m
      · rw [if_neg (by omega), if_pos c, if_pos c]
      · rw [if_neg c, if_neg c]
        by_cases c' : j < m + 4
        · rw [if_pos (by omega), if_pos c', lst_getD (by omega)]
        · rw [if_neg (by omega), if_neg c']
    have hAz : ∀ b, b = A → w.heap.size ≤ b := fun b e => by rw [e]; exact u02.1
    have u04 : Upd NoB w.heap h4 := nz hAz (nz n0 (nz hAz (nz n0 u02 uA) u3) uB) u4
    have hAZ : ¬ Z A := fun hh => absurd (S2.lt _ hh) (Nat.lt_irrefl _)
    have hAZ' : ¬ Z' A := fun hh => absurd (T2.lt _ hh) (Nat.lt_irrefl _)
    have S4 : Sp h4 s G3 2 (fun _ => 0) Z := (((S2.upd uA fun _ _ => id).upd u3 fun b hb e => hAZ (e ▸ hb)).upd uB fun _ _ => id).upd u4 fun b hb e => hAZ (e ▸ hb)
    have T4 : Sp h4 s' G3 2 (fun _ => 0) Z' := (((T2.upd uA fun _ _ => id).upd u3 fun b hb e => hAZ' (e ▸ hb)).upd uB fun _ _ => id).upd u4 fun b hb e => hAZ' (e ▸ hb)
    have ZZ : ∀ b, Z b → ¬ Z' b := fun b hb hb' => by have := S1.lt b hb; have := hz' b hb'; omega
    have row4 : Row h4 (some ⟨A, 0, none⟩) m (fun i => .int .u8 (f i)) := (B4.row 0 m (by omega)).congr fun i hi => by rw [Nat.zero_add, if_pos hi]
    refine mem_Write_ok (by decide) (by omega) (by omega) S4 row4 (fun i hi => hf i (by omega)) (.inr fun a ha => by cases ha; exact hAZ) (fun _ h5 u5 S5 => ⟨_, rfl, ?_⟩) fun t => absurd ((tn m).2 (by omega)) t
    rw [t0] at S5
    have S5 : Sp h5 s G3 2 (fun o => if o < m then f o else 0) Z := S5.congr fun o ho => by
      by_cases c : o < m
      · rw [if_pos (by omega), if_pos c, Nat.sub_zero]
      · rw [if_neg (by omega), if_neg c]
    have T5 := T4.upd u5 fun b hb hb' => ZZ b hb' hb
    have u05 := nz hzw u04 u5
    have B5 := B4.upd u5 hAZ
    intro J10 k10
    refine pF rfl ?_
    have dataR : ∀ {hx : Heap}, Upd NoB w.heap hx → Row hx q m (fun i => .int .u8 (f i)) := fun u => hrow.upd u fun _ _ => id
    refine Same_true (by omega) ((B5.row 0 m (by omega)).congr fun i hi => by rw [Nat.zero_add, if_pos hi]) (dataR u05) (fun i hi => rfl) ⟨_, rfl, k10 _ _ ?_⟩
    intro J11 k11
    refine pF rfl ⟨by omega, by omega, by omega, ?_⟩
    let hC : Heap := Array.push h5 (.cells #[(.int .u8 (201 : Int)), (.int .u8 (201 : Int)), (.int .u8 (201 : Int)), (.int .u8 (201 : Int))] T.T_uint8)
    have uC : Upd NoB h5 hC := push_upd _ _ _
    have BC : Blk hC h5.size 4 (fun _ => .int .u8 201) := (Blk.new h5 #[(.int .u8 (201 : Int)), (.int .u8 (201 : Int)), (.int .u8 (201 : Int)), (.int .u8 (201 : Int))] T.T_uint8).congr fun j hj => by
      have : j < 4 := hj
      have : j = 0 ∨ j = 1 ∨ j = 2 ∨ j = 3 := by omega
      rcases this with rfl | rfl | rfl | rfl <;> rfl
    have B5C := B5.upd uC id
    have hpw : (if m + 8 = m then some (⟨A, 0, none⟩ : Addr) else Option.map (fun b => Addr.add b (m * 1)) (some (⟨A, 0, none⟩ : Addr))) = some ⟨A, m, none⟩ := by
      rw [if_neg (by omega)]; simp
    rw [hpw]
    refine Same_true (n := 4) (f := fun _ => 201) (g := fun _ => 201) (by decide) ((B5C.row m 4 (by omega)).congr fun i hi => by rw [if_neg (by omega), if_pos (by omega)]) ((BC.row 0 4 (by omega)).congr fun i hi => rfl) (fun i hi => rfl) ⟨_, rfl, k11 _ _ (iF rfl ?_)⟩
    have u0C := nz n0 u05 uC
    have SC := S5.upd uC fun _ _ => id
    have TC := T5.upd uC fun _ _ => id
    intro J12 k12 L36 hL36
    -- behind the first loop
    have after : ∀ hx : Heap, Upd (fun b => b = A) hC hx → J12 [.slice q m cq, .pointer (some ⟨s, 0, none⟩), .pointer (some ⟨s', 0, none⟩), .int .u64 (m : Int)] hx := by
      intro hx ux
      apply k12
      have ew : IntKind.wrap .u64 ((m : Int) + 8) = ((m + 8 : Nat) : Int) := by rw [IntKind.wrap_u64]; omega
      have u0x := nz hAz u0C ux
      have Sx := SC.upd ux fun b hb e => hAZ (e ▸ hb)
      have Tx := TC.upd ux fun b hb e => hAZ' (e ▸ hb)
      refine mem_Read_ok (by decide) (by omega) Sx (fun _ h7 b7 u7 hb7 B7 => ⟨_, _, _, _, rfl, ?_⟩) fun t => absurd ((tn m).2 (by omega)) t
      have S7 := Sx.upd u7 fun _ _ => id
      refine mem_Read_ok (by decide) (by omega) S7 (fun _ h8 b8 u8 hb8 B8 => ⟨_, _, _, _, rfl, ?_⟩) fun t => absurd ((tn m).2 (by omega)) t
      have S8 := S7.upd u8 fun _ _ => id
      have T8 := (Tx.upd u7 fun _ _ => id).upd u8 fun _ _ => id
      have u08 := nz n0 (nz n0 u0x u7) u8
      rw [t0, tm] at B7 B8
      simp only [tm]
      have B7 : Blk h7 b7 m (fun j => .int .u8 (f j)) := B7.congr fun j hj => by rw [Nat.zero_add, if_pos hj]
      have B8 : Blk h8 b8 m (fun j => .int .u8 (f j)) := B8.congr fun j hj => by rw [Nat.zero_add, if_pos hj]
      have B7' := B7.upd u8 id
      have hb78 : b7 ≠ b8 := by have := B7.lt; omega
      intro J15 k15
      refine pF rfl (k15 _ _ ?_)
      intro J16 k16
      refine pF rfl (Same_true (by omega) ((B7'.row 0 m (by omega)).congr fun i hi => by rw [Nat.zero_add]) (dataR u08) (fun i hi => rfl) ⟨_, rfl, k16 _ _ ?_⟩)
      intro J17 k17
      refine pF rfl (Same_true (by omega) ((B8.row 0 m (by omega)).congr fun i hi => by rw [Nat.zero_add]) (dataR u08) (fun i hi => rfl) ⟨_, rfl, k17 _ _ (iF rfl ?_)⟩)
      intro J18 k18 L32 hL32
      have hb7w : ∀ b, b = b7 → w.heap.size ≤ b := fun b e => by rw [e]; exact Nat.le_trans u0x.1 hb7
      have b7Z : ¬ Z b7 := fun hh => absurd (Sx.lt _ hh) (by omega)
      have b7Z' : ¬ Z' b7 := fun hh => absurd (Tx.lt _ hh) (by omega)
      have after2 : ∀ (hy : Heap) (g : Nat → Int), Upd (fun b => b = b7) h8 hy → Blk hy b7 m (fun j => .int .u8 (g j)) → J18 [.slice q m cq, .pointer (some ⟨s, 0, none⟩), .pointer (some ⟨s', 0, none⟩), .int .u64 (m : Int), .slice (some ⟨b7, 0, none⟩) m m, .slice (some ⟨b8, 0, none⟩) m m] hy := by
        intro hy g uy By
        apply k18
        simp only [e1, ew]
        have u0y := nz hb7w u08 uy
        have Sy := S8.upd uy fun b hb e => b7Z (e ▸ hb)
        have Ty := T8.upd uy fun b hb e => b7Z' (e ▸ hb)
        have B8y := B8.upd uy (fun e => hb78 e.symm)
        let hD : Heap := Array.push hy (.cells #[(.int .u8 (7 : Int)), (.int .u8 (7 : Int)), (.int .u8 (7 : Int)), (.int .u8 (7 : Int)), (.int .u8 (7 : Int)), (.int .u8 (7 : Int)), (.int .u8 (7 : Int)), (.int .u8 (7 : Int))] T.T_uint8)
        have uD : Upd NoB hy hD := push_upd _ _ _
        have BD : Blk hD hy.size 8 (fun _ => .int .u8 7) := (Blk.new hy #[(.int .u8 (7 : Int)), (.int .u8 (7 : Int)), (.int .u8 (7 : Int)), (.int .u8 (7 : Int)), (.int .u8 (7 : Int)), (.int .u8 (7 : Int)), (.int .u8 (7 : Int)), (.int .u8 (7 : Int))] T.T_uint8).congr fun j hj => by
          have : j < 8 := hj
          have : j = 0 ∨ j = 1 ∨ j = 2 ∨ j = 3 ∨ j = 4 ∨ j = 5 ∨ j = 6 ∨ j = 7 := by omega
          rcases this with rfl | rfl | rfl | rfl | rfl | rfl | rfl | rfl <;> rfl
        have rD : Row hD (some ⟨b7, 0, none⟩) m (fun j => .int .u8 (g j)) := ((By.upd uD id).row 0 m (by omega)).congr fun i hi => by rw [Nat.zero_add]
        refine ⟨lst m (fun j => .int .u8 (g j)), lst 8 (fun _ => .int .u8 7), ⟨by simp, rD.rowAt, by simp, ((BD.row 0 8 (by omega)).congr fun i hi => rfl).rowAt, fun e => absurd e (by omega), fun e => ?_⟩, ?_⟩
        · have := nextslicecap_le (need := m + 8) (old := m) e
          have : Builtin.nextslicecap (m + 8) m ≤ 10000 := by omega
          exact Nat.le_trans (Nat.mul_le_mul_right 1 this) (by decide)
        intro p3 c3 hE hres
        rcases hres with ⟨e, _⟩ | ⟨_, _, rfl, hres⟩
        · exact absurd e (by omega)
        have uE : Upd NoB hD hE := by rw [hres]; exact push_upd _ _ _
        have u0E := nz n0 (nz n0 u0y uD) uE
        have SE := (Sy.upd uD fun _ _ => id).upd uE fun _ _ => id
        have TE := (Ty.upd uD fun _ _ => id).upd uE fun _ _ => id
        refine mem_Read_ok (by decide) (by omega) SE (fun _ hF bF uF hbF BF => ⟨_, _, _, _, rfl, ?_⟩) fun t => absurd ((tn ((m + 8 : Nat) : Int)).2 (by omega)) t
        rw [t0, tm8] at BF
        simp only [tm8]
        have BF : Blk hF bF (m + 8) (fun j => .int .u8 (if j < m then f j else 0)) := BF.congr fun j hj => by rw [Nat.zero_add]
        have u0F := nz n0 u0E uF
        have TF := TE.upd uF fun _ _ => id
        have B8F := ((B8y.upd uD id).upd uE id).upd uF id
        intro J22 k22
        refine pF rfl (Same_true (by omega) ((B8F.row 0 m (by omega)).congr fun i hi => by rw [Nat.zero_add]) (dataR u0F) (fun i hi => rfl) ⟨_, rfl, k22 _ _ ?_⟩)
        intro J23 k23
        refine pF rfl ⟨by omega, by omega, by omega, ?_⟩
        have rF : Row hF (some ⟨bF, 0, none⟩) m (fun i => .int .u8 (f i)) := (BF.row 0 m (by omega)).congr fun i hi => by rw [Nat.zero_add, if_pos hi]
        refine Same_true (by omega) (slice_front rF) (dataR u0F) (fun i hi => rfl) ⟨_, rfl, k23 _ _ ?_⟩
        intro J24 k24
        refine pF rfl (k24 _ _ (iF (by simp) ?_))
        intro J25 k25 L29 hL29
        have after3 : J25 [.pointer (some ⟨s', 0, none⟩), .int .u64 (m : Int)] hF := by
          apply k25
          refine mem_Read_ok (by decide) (by omega) TF (fun _ hG bG uG hbG BG => ⟨_, _, _, _, rfl, iF rfl ?_⟩) fun t => absurd ((tn m).2 (by omega)) t
          rw [tm] at BG
          simp only [tm]
          have u0G := nz n0 u0F uG
          intro J27 k27 L28 hL28
          have loop : ∀ r i : Nat, i + r = m → L28 [.slice (some ⟨bG, 0, none⟩) m m, .int .i64 (i : Int)] hG := by
            intro r
            induction r with
            | zero =>
              intro i hi
              have : i = m := by omega
              subst this
              exact hL28 _ _ _ _ _ (iF (by simp) (k27 _ ⟨by first | rfl | trivial, u0G⟩))
            | succ r ih =>
              intro i hi
              have e3 : IntKind.wrap .i64 ((i : Int) + 1) = ((i + 1 : Nat) : Int) := by rw [IntKind.wrap_i64]; omega
              have t1 : Int.toNat (i : Int) = i := by omega
              refine hL28 _ _ _ _ _ (iT (by simp; omega) ?_)
              rw [e3, t1]
              refine ⟨_, rfl, by omega, by omega, 0, ?_, iF rfl (ih (i + 1) (by omega))⟩
              rw [add_mk, Nat.mul_one, Nat.zero_add]
              exact BG.cell (by omega)
          exact loop m 0 (by omega)
        have loop : ∀ r i : Nat, i + r = m + 8 → m ≤ i → L29 [.pointer (some ⟨s', 0, none⟩), .int .u64 (m : Int), .slice (some ⟨bF, 0, none⟩) (m + 8) (m + 8), .int .i64 (i : Int)] hF := by
          intro r
          induction r with
          | zero =>
            intro i hi him
            have : i = m + 8 := by omega
            subst this
            exact hL29 _ _ _ _ _ _ _ (iF (by simp) after3)
          | succ r ih =>
            intro i hi him
            have e3 : IntKind.wrap .i64 ((i : Int) + 1) = ((i + 1 : Nat) : Int) := by rw [IntKind.wrap_i64]; omega
            have t1 : Int.toNat (i : Int) = i := by omega
            refine hL29 _ _ _ _ _ _ _ (iT (by simp; omega) ?_)
            rw [e3, t1]
            refine ⟨_, rfl, by omega, by omega, 0, ?_, iF rfl (ih (i + 1) (by omega) (by omega))⟩
            rw [add_mk, Nat.mul_one, Nat.zero_add, BF.cell (by omega), if_neg (by omega)]
        exact loop 8 m rfl (Nat.le_refl _)
      have loop : ∀ (r i : Nat) (hy : Heap) (g : Nat → Int), i + r = m → Upd (fun b => b = b7) h8 hy → Blk hy b7 m (fun j => .int .u8 (g j)) →
          L32 [.slice q m cq, .pointer (some ⟨s, 0, none⟩), .pointer (some ⟨s', 0, none⟩), .int .u64 (m : Int), .slice (some ⟨b7, 0, none⟩) m m, .slice (some ⟨b8, 0, none⟩) m m, .int .i64 (i : Int)] hy := by
        intro r
        induction r with
        | zero =>
          intro i hy g hi uy By
          have : i = m := by omega
          subst this
          exact hL32 _ _ _ _ _ _ _ _ _ _ _ _ _ _ (iF (by simp) (after2 hy g uy By))
        | succ r ih =>
          intro i hy g hi uy By
          have e3 : IntKind.wrap .i64 ((i : Int) + 1) = ((i + 1 : Nat) : Int) := by rw [IntKind.wrap_i64]; omega
          have t1 : Int.toNat (i : Int) = i := by omega
          refine hL32 _ _ _ _ _ _ _ _ _ _ _ _ _ _ (iT (by simp; omega) ?_)
          rw [e3, t1]
          refine ⟨_, rfl, by omega, by omega, g i, ?_, _, rfl, by omega, by omega, ?_, ?_⟩
          · rw [add_mk, Nat.mul_one, Nat.zero_add]
            exact By.cell (by omega)
          · rw [add_mk, Nat.mul_one, Nat.zero_add]
            exact By.wr (by omega)
          · rw [add_mk, Nat.mul_one, Nat.zero_add]
            refine ih (i + 1) _ (fun j => if j = i then IntKind.wrap .u8 (g i + 1) else g j) (by omega) (Upd.trans uy (setC_upd _ _ _) (fun b e => e) (fun b e _ => e)) ((By.set i _).congr fun j hj => ?_)
            split <;> rfl
      exact loop m 0 h8 f (by omega) (Upd.refl _ _) B7'
    have loop : ∀ (r i : Nat) (hy : Heap) (g : Nat → Int), i + r = m → Upd (fun b => b = A) hC hy → Blk hy A (m + 8) (fun j => .int .u8 (g j)) →
        L36 [.slice q m cq, .pointer (some ⟨s, 0, none⟩), .pointer (some ⟨s', 0, none⟩), .int .u64 (m : Int), .slice (some ⟨A, 0, none⟩) m (m + 8), .int .i64 (i : Int)] hy := by
      intro r
      induction r with
      | zero =>
        intro i hy g hi uy By
        have : i = m := by omega
        subst this
        exact hL36 _ _ _ _ _ _ _ _ _ _ _ (iF (by simp) (after hy uy))
      | succ r ih =>
        intro i hy g hi uy By
        have e3 : IntKind.wrap .i64 ((i : Int) + 1) = ((i + 1 : Nat) : Int) := by rw [IntKind.wrap_i64]; omega
        have t1 : Int.toNat (i : Int) = i := by omega
        refine hL36 _ _ _ _ _ _ _ _ _ _ _ (iT (by simp; omega) ?_)
        rw [e3, t1]
        refine ⟨_, rfl, by omega, by omega, g i, ?_, _, rfl, by omega, by omega, ?_, ?_⟩
        · rw [add_mk, Nat.mul_one, Nat.zero_add]
          exact By.cell (by omega)
        · rw [add_mk, Nat.mul_one, Nat.zero_add]
          exact By.wr (by omega)
        · rw [add_mk, Nat.mul_one, Nat.zero_add]
          refine ih (i + 1) _ (fun j => if j = i then IntKind.wrap .u8 (g i + 1) else g j) (by omega) (Upd.trans uy (setC_upd _ _ _) (fun b e => e) (fun b e _ => e)) ((By.set i _).congr fun j hj => ?_)
          split <;> rfl
    exact loop m 0 hC _ (by omega) (Upd.refl _ _) B5C
  refine ⟨fun e => ?_, fun e => ?_⟩
  · simp at e
    refine ⟨by decide, by decide, by omega, ?_⟩
    exact main _ 4096 (cp - 0) (by omega) (by omega) (by omega) (slice_front (Row.take hr (by omega)))
  · simp at e
    exact main p n cp (by omega) hnc hnc (Row.take hr hnc)

end Go.Proofs.Ytpninapdjcggoaa
