/- Chapter 2's own answer: its space made, grown and shrunk. No condition. -/
import Derived.Test.YtfijahblggnbbaaWC
set_option linter.unusedSimpArgs false
set_option linter.unusedVariables false
namespace Go.Proofs.Ytfijahblggnbbaa
open Go.V Classical

def hpf (c : Cfg) (l : Nat) (mp : Option Addr) (mc : Nat) : Nat → Value
  | 0 => .int .u64 c.base
  | 1 => .int .u64 (c.size : Int)
  | 2 => .int .i64 c.limit
  | _ => .slice mp l mc

theorem res4 {hx : Heap} {b : Nat} {f : Nat → Value} (B : Blk hx b 4 f) (v0 v1 v2 v3 : Value) :
    WrN hx ⟨b, 0, none⟩ 4 ∧ cellAt (setCs hx ⟨b, 0, none⟩ 0 [v0, v1, v2, v3]) ⟨b, 0, none⟩ = some v0 ∧ cellAt (setCs hx ⟨b, 0, none⟩ 0 [v0, v1, v2, v3]) ⟨b, 1, none⟩ = some v1 ∧
      cellAt (setCs hx ⟨b, 0, none⟩ 0 [v0, v1, v2, v3]) ⟨b, 2, none⟩ = some v2 ∧ cellAt (setCs hx ⟨b, 0, none⟩ 0 [v0, v1, v2, v3]) ⟨b, 3, none⟩ = some v3 ∧ Upd (fun x => x = b) hx (setCs hx ⟨b, 0, none⟩ 0 [v0, v1, v2, v3]) := by
  have B' := B.sets [v0, v1, v2, v3] 0 0
  refine ⟨fun j hj => by rw [add_mk]; exact B.wr (by omega), ?_, ?_, ?_, ?_, setCs_upd _ _ _ _⟩
  · rw [B'.cell (by omega)]; rfl
  · rw [B'.cell (by omega)]; rfl
  · rw [B'.cell (by omega)]; rfl
  · rw [B'.cell (by omega)]; rfl

theorem zeroBlk (h : Heap) (k : Nat) (T : TypeId) : Blk (h.push (.cells (List.toArray (zrow [(.int .u8 (0 : Int))] k)) T)) h.size k (fun _ => .int .u8 0) :=
  Blk.new' _ _ _ k (fun _ => .int .u8 0) (by simp [zrow_length]) fun j hj => by
    have := zrow_get [(.int .u8 (0 : Int))] k j (by simpa using hj)
    simp only [List.length_cons, List.length_nil, Nat.zero_add, Nat.mod_one, List.getElem?_cons_zero] at this
    simpa using this

theorem oneB (k : Nat) (g : Nat → Int) : ∀ v ∈ lst k (fun i => Value.int .u8 (g i)), oneC v = true := by
  intro v hv
  simp [lst] at hv
  obtain ⟨x, _, rfl⟩ := hv
  rfl

/-- An append of bytes in place. -/
theorem appIn {h : Heap} {b N o m c : Nat} {f : Nat → Value} {g : Nat → Int} {q : Option Addr} {os : List Value} {e : TypeId} (B : Blk h b N f) (hN : o + m ≤ c) (hc : c ≤ N) (hos : os = lst o f) (hr : Row h q m (fun i => .int .u8 (g i))) :
    AppPre h (some ⟨b, 0, none⟩) o c q m 1 1 os (lst m fun i => .int .u8 (g i)) ∧
      ∀ (p' : Option Addr) (c' : Nat) (h' : Heap), AppRes h (some ⟨b, 0, none⟩) o c m [(.int .u8 (0 : Int))] e os (lst m fun i => .int .u8 (g i)) p' c' h' →
        p' = some ⟨b, 0, none⟩ ∧ c' = c ∧ Upd (fun x => x = b) h h' ∧ Blk h' b N (fun j => if o ≤ j ∧ j < o + m then .int .u8 (g (j - o)) else f j) := by
  subst hos
  refine ⟨⟨by simp, ((B.row 0 o (by omega)).congr fun i hi => by rw [Nat.zero_add]).rowAt, by simp, hr.rowAt, fun _ => ⟨oneB _ _, fun a ha j hj => ?_⟩, fun e => absurd e (by omega)⟩, ?_⟩
  · cases ha
    rw [add_mk, add_mk]
    exact B.wr (by simp at hj; omega)
  · rintro p' c' h' (⟨_, rfl, rfl, hres⟩ | ⟨e, _⟩)
    · have hres : h' = setCs h ⟨b, o, none⟩ 0 (lst m fun i => .int .u8 (g i)) := by
        rw [hres]
        simp only [Option.map_some, List.length_cons, List.length_nil, Nat.mul_one, Nat.zero_add, add_mk, wrH]
      subst hres
      refine ⟨rfl, rfl, setCs_upd _ _ _ _, (B.sets _ o 0).congr fun j hj => ?_⟩
      rw [lst_length, Nat.add_zero]
      split
      · rw [lst_getD (by omega)]
      · rfl
    · exact absurd e (by omega)

section
variable {w₀ : World} {h : Heap} {n mc : Nat} {c : Cfg} {M : Nat → Int} {mp : Option Addr} {Y : Nat → Prop} {K : Value → Heap → Prop}

theorem HP_blk : Blk (HP h c n mp mc) h.size 4 (hpf c (n * c.size) mp mc) := (Blk.new h _ _).congr fun j hj => by
  have : j < 4 := hj
  have : j = 0 ∨ j = 1 ∨ j = 2 ∨ j = 3 := by omega
  rcases this with rfl | rfl | rfl | rfl <;> rfl

theorem Rs.rowR (H : Rs h c n M mp mc Y) : Row h mp (n * c.size) (fun i => .int .u8 (M i)) := by
  rcases H.row with e | ⟨b, N, g, rfl, e2, e3, e4, e5⟩
  · exact .inl e
  · exact (e2.row 0 (n * c.size) (by omega)).congr fun i hi => by rw [Nat.zero_add, e5 i hi]

theorem ref2_R_ok {b d : Int} (h0 : 0 ≤ d) (h8 : d ≤ 8) (hK : ∀ h', Upd NoB h h' → K (.int .u64 ((4096 * 2 ^ d.toNat : Nat) : Int)) h') {a : Int} : CallV Try.prog w₀ F.croftref2_R [.agg #[.int .u64 a, .int .i64 b, .int .i64 d]] h K := by
  refine croftref2_R.call ?_
  let H1 : Heap := Array.push h (.cells #[(.int .u64 a), (.int .i64 b), (.int .i64 d)] T.T_api_Config)
  have c2 : cellAt H1 ⟨h.size, 2, none⟩ = some (.int .i64 d) := by simp [H1, cellAt_new]
  have hx : ∀ i : Nat, i ≤ 8 → 2 ^ i ≤ 256 := fun i hi => Nat.le_trans (Nat.pow_le_pow_right (by decide) hi) (by decide)
  intro J k L hL
  have loop : ∀ r i : Nat, i + r = d.toNat → L [.pointer (some ⟨h.size, 0, none⟩), .int .u64 ((4096 * 2 ^ i : Nat) : Int), .int .i64 (i : Int)] H1 := by
    intro r
    induction r with
    | zero =>
      intro i hi
      have : i = d.toNat := by omega
      subst this
      refine hL _ _ _ _ ⟨d, c2, iF (by simp; omega) (k _ _ (hK _ (push_upd _ _ _)))⟩
    | succ r ih =>
      intro i hi
      have hp := hx i (by omega)
      have e2 : IntKind.wrap .u64 (((4096 * 2 ^ i : Nat) : Int) * 2) = ((4096 * 2 ^ (i + 1) : Nat) : Int) := by rw [Nat.pow_succ, IntKind.wrap_u64]; omega
      have e3 : IntKind.wrap .i64 ((i : Int) + 1) = ((i + 1 : Nat) : Int) := by rw [IntKind.wrap_i64]; omega
      refine hL _ _ _ _ ⟨d, c2, iT (by simp; omega) ?_⟩
      rw [e2, e3]
      exact ih (i + 1) (by omega)
  exact loop d.toNat 0 (by omega)

theorem ref2_New_ok {a b d : Int} (g : Cfg.Good ⟨a, b, d⟩) (hK : ∀ h', Upd NoB h h' → K (rsv ⟨a, b, d⟩ 0 none 0) h') : CallV Try.prog w₀ F.croftref2_New [.agg #[.int .u64 a, .int .i64 b, .int .i64 d]] h K := by
  refine croftref2_New.call ?_
  let H1 : Heap := Array.push h (.cells #[(.int .u64 a), (.int .i64 b), (.int .i64 d)] T.T_api_Config)
  let H2 : Heap := Array.push H1 (.cells #[(.int .u64 (0 : Int)), (.int .u64 (0 : Int)), (.int .i64 (0 : Int)), (.slice none 0 0)] T.T_croftref2_Space)
  have u1 : Upd NoB h H1 := push_upd _ _ _
  have u2 : Upd NoB H1 H2 := push_upd _ _ _
  have B1 : Blk H2 h.size 3 (fun j => (#[(.int .u64 a), (.int .i64 b), (.int .i64 d)] : Array Value).getD j undef) := (Blk.new h _ _).upd u2 id
  have B2 : Blk H2 H1.size 4 (fun j => (#[(.int .u64 (0 : Int)), (.int .u64 (0 : Int)), (.int .i64 (0 : Int)), (.slice none 0 0)] : Array Value).getD j undef) := Blk.new H1 _ _
  have c0 : cellAt H2 ⟨h.size, 0, none⟩ = some (.int .u64 a) := B1.cell (i := 0) (by omega)
  have c1 : cellAt H2 ⟨h.size, 1, none⟩ = some (.int .i64 b) := B1.cell (i := 1) (by omega)
  have c2 : cellAt H2 ⟨h.size, 2, none⟩ = some (.int .i64 d) := B1.cell (i := 2) (by omega)
  refine ⟨a, c0, a, c0, b, c1, d, c2, b, c1, ref2_R_ok g.o0 g.o8 fun h6 u6 => ⟨_, rfl, ?_, ?_, ?_⟩⟩
  · exact cellAt_upd c1 u6 id
  · exact cellAt_upd c0 u6 id
  have B6 := B2.upd u6 id
  obtain ⟨r1, r2, r3, r4, r5, r6⟩ := res4 B6 (.int .u64 a) (.int .u64 ((4096 * 2 ^ d.toNat : Nat) : Int)) (.int .i64 b) (.slice none 0 0)
  refine ⟨r1, _, r2, _, r3, _, r4, _, _, _, r5, ?_⟩
  have hs1 : H1.size = h.size + 1 := by simp [H1]
  have := hK _ (((u1.nx u2 fun _ e _ => e).nx u6 fun _ e _ => e).nx r6 fun x e hx => absurd hx (by rw [e]; omega))
  unfold rsv at this
  rw [Nat.zero_mul] at this
  exact this

theorem ref2_Commit_ok {deny : Bool} (H : Rs h c n M mp mc Y)
    (hn : deny = true ∨ (n : Int) = c.limit → ∀ h', Upd NoB h h' → K (.tuple #[rsv c n mp mc, .int .u64 0, .int .i64 2]) h')
    (hg : deny = false → (n : Int) < c.limit → ∀ (h' : Heap) (mp' : Option Addr) (mc' : Nat) (Y' : Nat → Prop), Upd NoB h h' → (∀ b, Y' b → h.size ≤ b) → Rs h' c (n + 1) (fun o => if o < n * c.size then M o else 0) mp' mc' Y' →
      K (.tuple #[rsv c (n + 1) mp' mc', .int .u64 (c.base + (n * c.size : Nat)), .int .i64 0]) h') :
    CallV Try.prog w₀ F.croftref2_Commit [rsv c n mp mc, .bool deny] h K := by
  refine croftref2_Commit.call ?_
  have hl := H.len
  have hs := H.good.size_pos
  have hsl := H.good.size_le
  have hnl := H.nl
  have hb0 := H.good.b0
  have hl64 := H.good.l64
  let P1 : Heap := HP h c n mp mc
  let P2 : Heap := Array.push P1 (.cells #[(.int .u64 (0 : Int)), (.int .u64 (0 : Int)), (.int .i64 (0 : Int)), (.slice none 0 0)] T.T_croftref2_Space)
  have s1 : P1.size = h.size + 1 := by simp [P1, HP]
  have s2 : P2.size = h.size + 2 := by simp [P2, s1]
  have u2 : Upd NoB P1 P2 := push_upd _ _ _
  have u02 : Upd NoB h P2 := HP_upd.nx u2 fun _ e _ => e
  have B1 : Blk P2 h.size 4 (hpf c (n * c.size) mp mc) := HP_blk.upd u2 id
  have B2 : Blk P2 P1.size 4 (fun j => (#[(.int .u64 (0 : Int)), (.int .u64 (0 : Int)), (.int .i64 (0 : Int)), (.slice none 0 0)] : Array Value).getD j undef) := Blk.new P1 _ _
  have cells : ∀ {hx : Heap}, Blk hx h.size 4 (hpf c (n * c.size) mp mc) → cellAt hx ⟨h.size, 0, none⟩ = some (.int .u64 c.base) ∧ cellAt hx (Addr.add ⟨h.size, 0, none⟩ 1) = some (.int .u64 (c.size : Int)) ∧ cellAt hx (Addr.add ⟨h.size, 0, none⟩ 2) = some (.int .i64 c.limit) ∧ cellAt hx (Addr.add ⟨h.size, 0, none⟩ 3) = some (.slice mp (n * c.size) mc) :=
    fun B => ⟨B.cell (i := 0) (by omega), by rw [add_mk]; exact B.cell (i := 1) (by omega), by rw [add_mk]; exact B.cell (i := 2) (by omega), by rw [add_mk]; exact B.cell (i := 3) (by omega)⟩
  intro J3 k3
  have refuse : ∀ hx, Upd NoB P2 hx → (deny = true ∨ (n : Int) = c.limit) → J3 true hx := by
    intro hx ux hd
    refine k3 _ _ (iT rfl ?_)
    obtain ⟨k0, k1, k2, k3'⟩ := cells (B1.upd ux id)
    obtain ⟨r1, r2, r3, r4, r5, r6⟩ := res4 (B2.upd ux id) (.int .u64 c.base) (.int .u64 (c.size : Int)) (.int .i64 c.limit) (.slice mp (n * c.size) mc)
    refine ⟨_, k0, _, k1, _, k2, _, _, _, k3', r1, _, r2, _, r3, _, r4, _, _, _, r5, hn hd _ ?_⟩
    exact (u02.nx ux fun _ e _ => e).nx r6 fun x e hx => by rw [e] at hx; omega
  cases deny with
  | true => exact pT rfl (refuse P2 (Upd.refl _ _) (.inl rfl))
  | false =>
  refine pF rfl ?_
  obtain ⟨k0, k1, k2, k3'⟩ := cells B1
  refine ⟨_, k0, _, k1, _, k2, _, _, _, k3', c.limit, k2, ref2_Regions_ok (H.upd u02 fun _ _ => id) fun h17 u17 => ⟨_, rfl, ?_, ?_⟩⟩
  · exact (cells (B1.upd u17 id)).2.2.1
  by_cases hlim : (n : Int) = c.limit
  · have : decide ((n : Int) ≥ c.limit) = true := by simp; omega
    rw [this]
    exact refuse h17 u17 (.inr hlim)
  have : decide ((n : Int) ≥ c.limit) = false := by simp; omega
  rw [this]
  refine k3 _ _ (iF rfl ?_)
  have B1a := B1.upd u17 id
  have B2a := B2.upd u17 id
  have R17 := (H.upd u02 fun _ _ => id).upd u17 fun _ _ => id
  obtain ⟨k0, k1, k2, k3'⟩ := cells B1a
  refine ⟨_, k0, _, k1, _, k2, _, _, _, k3', ref2_End_ok R17 fun h20 u20 => ⟨_, rfl, ?_⟩⟩
  have B1b := B1a.upd u20 id
  have B2b := B2a.upd u20 id
  have R20 := R17.upd u20 fun _ _ => id
  have u020 : Upd NoB h h20 := (u02.nx u17 fun _ e _ => e).nx u20 fun _ e _ => e
  obtain ⟨k0, k1, k2, k3'⟩ := cells B1b
  have ts : Int.toNat (c.size : Int) = c.size := by omega
  have t0 : Int.toNat (0 : Int) = 0 := rfl
  have eL : IntKind.wrap .i64 (((n * c.size : Nat) : Int) + ((c.size : Nat) : Int)) = ((n * c.size + c.size : Nat) : Int) := by rw [IntKind.wrap_i64]; omega
  have tL : Int.toNat ((n * c.size + c.size : Nat) : Int) = n * c.size + c.size := by omega
  refine ⟨_, k1, ?_⟩
  rw [ts]
  refine ⟨by omega, by omega, by omega, ?_⟩
  let Za : Heap := Array.push h20 (.cells (List.toArray (zrow [(.int .u8 (0 : Int))] c.size)) T.T_uint8)
  have uZa : Upd NoB h20 Za := push_upd _ _ _
  have BZa : Blk Za h20.size c.size (fun _ => .int .u8 0) := zeroBlk _ _ _
  have sZa : Za.size = h20.size + 1 := by simp [Za]
  have k3a : cellAt Za (Addr.add ⟨h.size, 0, none⟩ 3) = some (.slice mp (n * c.size) mc) := (cells (B1b.upd uZa id)).2.2.2
  refine ⟨_, _, _, k3a, ?_⟩
  simp only [eL, tL, t0, Nat.zero_add]
  refine ⟨by omega, by omega, by omega, ?_⟩
  let Zb : Heap := Array.push Za (.cells (List.toArray (zrow [(.int .u8 (0 : Int))] (n * c.size + c.size))) T.T_uint8)
  have uZb : Upd NoB Za Zb := push_upd _ _ _
  have BZb : Blk Zb Za.size (n * c.size + c.size) (fun _ => .int .u8 0) := zeroBlk _ _ _
  have k3b : cellAt Zb (Addr.add ⟨h.size, 0, none⟩ 3) = some (.slice mp (n * c.size) mc) := (cells ((B1b.upd uZa id).upd uZb id)).2.2.2
  refine ⟨_, _, _, k3b, ?_⟩
  have RZ := (R20.upd uZa fun _ _ => id).upd uZb fun _ _ => id
  obtain ⟨a1, a2⟩ := appIn (o := 0) (os := []) (e := T.T_uint8) BZb (by omega) (Nat.le_refl _) rfl RZ.rowR
  refine ⟨_, _, a1, fun p34 c34 h34 hres => ?_⟩
  obtain ⟨rfl, rfl, u34, B34⟩ := a2 _ _ _ hres
  have h20s : h.size ≤ h20.size := u020.1
  have n1 : h.size ≠ Za.size := by omega
  have BZa' := (BZa.upd uZb id).upd u34 (by omega)
  obtain ⟨a3, a4⟩ := appIn (o := n * c.size) (m := c.size) (g := fun _ => 0) (os := lst (n * c.size) fun i => .int .u8 (M i)) (e := T.T_uint8) B34 (Nat.le_refl _) (Nat.le_refl _)
    (by
      unfold lst
      refine List.map_congr_left fun i hi => ?_
      rw [if_pos ⟨Nat.zero_le _, by simpa using hi⟩, Nat.sub_zero])
    ((BZa'.row 0 c.size (by omega)).congr fun i hi => rfl)
  refine ⟨_, _, a3, fun p37 c37 h37 hres => ?_⟩
  obtain ⟨rfl, rfl, u37, B37⟩ := a4 _ _ _ hres
  have B1c := (((B1b.upd uZa id).upd uZb id).upd u34 n1).upd u37 n1
  have P1s : P1.size < h20.size := B2b.lt
  have B2c := (((B2b.upd uZa id).upd uZb id).upd u34 (by omega)).upd u37 (by omega)
  let h38 : Heap := setC h37 ⟨h.size, 3, none⟩ (.slice (some ⟨Za.size, 0, none⟩) (n * c.size + c.size) (n * c.size + c.size))
  have u38 : Upd (fun b => b = h.size) h37 h38 := setC_upd _ _ _
  have B1d : Blk h38 h.size 4 (hpf c (n * c.size + c.size) (some ⟨Za.size, 0, none⟩) (n * c.size + c.size)) := (B1c.set 3 _).congr fun j hj => by
    have : j = 0 ∨ j = 1 ∨ j = 2 ∨ j = 3 := by omega
    rcases this with rfl | rfl | rfl | rfl <;> rfl
  have B2d := B2c.upd u38 (by omega)
  have BMd := B37.upd u38 (Ne.symm n1)
  refine ⟨by rw [add_mk]; exact B1c.wr (by omega), ?_⟩
  have q0 : cellAt h38 ⟨h.size, 0, none⟩ = some (.int .u64 c.base) := B1d.cell (i := 0) (by omega)
  have q1 : cellAt h38 ⟨h.size, 1, none⟩ = some (.int .u64 (c.size : Int)) := B1d.cell (i := 1) (by omega)
  have q2 : cellAt h38 ⟨h.size, 2, none⟩ = some (.int .i64 c.limit) := B1d.cell (i := 2) (by omega)
  have q3 : cellAt h38 ⟨h.size, 3, none⟩ = some (.slice (some ⟨Za.size, 0, none⟩) (n * c.size + c.size) (n * c.size + c.size)) := B1d.cell (i := 3) (by omega)
  obtain ⟨r1, r2, r3, r4, r5, r6⟩ := res4 B2d (.int .u64 c.base) (.int .u64 (c.size : Int)) (.int .i64 c.limit) (.slice (some ⟨Za.size, 0, none⟩) (n * c.size + c.size) (n * c.size + c.size))
  simp only [add_mk, Nat.zero_add]
  refine ⟨_, q0, _, q1, _, q2, _, _, _, q3, r1, _, r2, _, r3, _, r4, _, _, _, r5, ?_⟩
  have el : (n + 1) * c.size = n * c.size + c.size := Nat.succ_mul _ _
  have u0Z : Upd NoB h Zb := (u020.nx uZa fun _ e _ => e).nx uZb fun _ e _ => e
  have nw : ∀ {S : Nat → Prop} {ha hb : Heap}, Upd NoB h ha → Upd S ha hb → (∀ b, S b → h.size ≤ b) → Upd NoB h hb := fun u u' hz => u.nx u' fun b e hb => absurd (hz b e) (by omega)
  have uf := nw (nw (nw (nw u0Z u34 fun b e => by omega) u37 fun b e => by omega) u38 fun b e => by omega) r6 fun b e => by omega
  have := hg rfl (by omega) _ (some ⟨Za.size, 0, none⟩) (n * c.size + c.size) (fun b => b = Za.size) uf (fun b e => by omega) ?_
  · unfold rsv at this
    rw [el] at this
    exact this
  · have hZs : Za.size < h38.size := BMd.lt
    refine { good := H.good, nl := by omega, row := .inr ⟨Za.size, _, _, rfl, BMd.upd r6 (by omega), rfl, by omega, fun j hj => ?_⟩, mc := by omega, lt := fun b e => by rw [e, setCs_size]; exact hZs, by8 := fun o ho => ?_ }
    · rw [el] at hj
      by_cases c1 : j < n * c.size
      · rw [if_neg (by omega), if_pos (by omega), if_pos c1, Nat.sub_zero]
      · rw [if_pos (by omega), if_neg c1]
    · split
      · exact H.by8 o (by assumption)
      · omega

theorem ref2_Decommit_ok {k : Int} (hk : -9223372036854775808 ≤ k ∧ k ≤ 9223372036854775807) (H : Rs h c n M mp mc Y)
    (hn : k < 0 ∨ (n : Int) < k → ∀ h', Upd NoB h h' → K (.tuple #[rsv c n mp mc, .int .i64 1]) h')
    (hg : ∀ m : Nat, (m : Int) = n - k → m ≤ n → ∀ (h' : Heap) (mp' : Option Addr) (mc' : Nat) (Y' : Nat → Prop), Upd NoB h h' → (∀ b, Y' b → h.size ≤ b) → Rs h' c m M mp' mc' Y' → K (.tuple #[rsv c m mp' mc', .int .i64 0]) h') :
    CallV Try.prog w₀ F.croftref2_Decommit [rsv c n mp mc, .int .i64 k] h K := by
  refine croftref2_Decommit.call ?_
  have hl := H.len
  have hs := H.good.size_pos
  have hsl := H.good.size_le
  have hnl := H.nl
  have hb0 := H.good.b0
  have hl64 := H.good.l64
  let P1 : Heap := HP h c n mp mc
  let P2 : Heap := Array.push P1 (.cells #[(.int .u64 (0 : Int)), (.int .u64 (0 : Int)), (.int .i64 (0 : Int)), (.slice none 0 0)] T.T_croftref2_Space)
  have s1 : P1.size = h.size + 1 := by simp [P1, HP]
  have s2 : P2.size = h.size + 2 := by simp [P2, s1]
  have u2 : Upd NoB P1 P2 := push_upd _ _ _
  have u02 : Upd NoB h P2 := HP_upd.nx u2 fun _ e _ => e
  have B1 : Blk P2 h.size 4 (hpf c (n * c.size) mp mc) := HP_blk.upd u2 id
  have B2 : Blk P2 P1.size 4 (fun j => (#[(.int .u64 (0 : Int)), (.int .u64 (0 : Int)), (.int .i64 (0 : Int)), (.slice none 0 0)] : Array Value).getD j undef) := Blk.new P1 _ _
  have cells : ∀ {hx : Heap}, Blk hx h.size 4 (hpf c (n * c.size) mp mc) → cellAt hx ⟨h.size, 0, none⟩ = some (.int .u64 c.base) ∧ cellAt hx (Addr.add ⟨h.size, 0, none⟩ 1) = some (.int .u64 (c.size : Int)) ∧ cellAt hx (Addr.add ⟨h.size, 0, none⟩ 2) = some (.int .i64 c.limit) ∧ cellAt hx (Addr.add ⟨h.size, 0, none⟩ 3) = some (.slice mp (n * c.size) mc) :=
    fun B => ⟨B.cell (i := 0) (by omega), by rw [add_mk]; exact B.cell (i := 1) (by omega), by rw [add_mk]; exact B.cell (i := 2) (by omega), by rw [add_mk]; exact B.cell (i := 3) (by omega)⟩
  intro J3 k3
  have refuse : ∀ hx, Upd NoB P2 hx → (k < 0 ∨ (n : Int) < k) → J3 true hx := by
    intro hx ux hd
    refine k3 _ _ (iT rfl ?_)
    obtain ⟨k0, k1, k2, k3'⟩ := cells (B1.upd ux id)
    obtain ⟨r1, r2, r3, r4, r5, r6⟩ := res4 (B2.upd ux id) (.int .u64 c.base) (.int .u64 (c.size : Int)) (.int .i64 c.limit) (.slice mp (n * c.size) mc)
    refine ⟨_, k0, _, k1, _, k2, _, _, _, k3', r1, _, r2, _, r3, _, r4, _, _, _, r5, hn hd _ ?_⟩
    exact (u02.nx ux fun _ e _ => e).nx r6 fun x e hx => by rw [e] at hx; omega
  by_cases hk0 : k < 0
  · exact pT (by simp [hk0]) (refuse P2 (Upd.refl _ _) (.inl hk0))
  refine pF (by simpa using hk0) ?_
  obtain ⟨k0, k1, k2, k3'⟩ := cells B1
  refine ⟨_, k0, _, k1, _, k2, _, _, _, k3', ref2_Regions_ok (H.upd u02 fun _ _ => id) fun h17 u17 => ⟨_, rfl, ?_⟩⟩
  by_cases hkn : (n : Int) < k
  · have : decide (k > (n : Int)) = true := by simpa using hkn
    rw [this]
    exact refuse h17 u17 (.inr hkn)
  have : decide (k > (n : Int)) = false := by simpa using hkn
  rw [this]
  refine k3 _ _ (iF rfl ?_)
  obtain ⟨m, hm⟩ : ∃ m : Nat, (m : Int) = n - k := ⟨(n - k).toNat, by omega⟩
  obtain ⟨kk, rfl⟩ : ∃ kk : Nat, k = kk := ⟨k.toNat, by omega⟩
  have hmn : n = m + kk := by omega
  have hmul : n * c.size = m * c.size + kk * c.size := by rw [hmn, Nat.add_mul]
  have B1a := B1.upd u17 id
  have B2a := B2.upd u17 id
  have R17 := (H.upd u02 fun _ _ => id).upd u17 fun _ _ => id
  have u017 : Upd NoB h h17 := u02.nx u17 fun _ e _ => e
  obtain ⟨k0, k1, k2, k3'⟩ := cells B1a
  have t0 : Int.toNat (0 : Int) = 0 := rfl
  have eK1 : IntKind.wrap .i64 (c.size : Int) = (c.size : Int) := by rw [IntKind.wrap_i64]; omega
  have eK2 : IntKind.wrap .i64 ((kk : Int) * (c.size : Int)) = ((kk * c.size : Nat) : Int) := by rw [← Int.natCast_mul, IntKind.wrap_i64]; omega
  have eK : IntKind.wrap .i64 (((n * c.size : Nat) : Int) - (IntKind.wrap .i64 ((kk : Int) * (IntKind.wrap .i64 (c.size : Int))))) = ((m * c.size : Nat) : Int) := by
    rw [eK1, eK2, IntKind.wrap_i64]
    omega
  have tK : Int.toNat ((m * c.size : Nat) : Int) = m * c.size := by omega
  refine ⟨_, _, _, k3', _, k1, ?_⟩
  rw [eK, tK]
  refine ⟨by omega, by omega, by omega, ?_⟩
  let Za : Heap := Array.push h17 (.cells (List.toArray (zrow [(.int .u8 (0 : Int))] (m * c.size))) T.T_uint8)
  have uZa : Upd NoB h17 Za := push_upd _ _ _
  have BZa : Blk Za h17.size (m * c.size) (fun _ => .int .u8 0) := zeroBlk _ _ _
  have k3a : cellAt Za (Addr.add ⟨h.size, 0, none⟩ 3) = some (.slice mp (n * c.size) mc) := (cells (B1a.upd uZa id)).2.2.2
  refine ⟨_, _, _, k3a, by omega, by omega, by have := H.mc; omega, ?_⟩
  have RZ := R17.upd uZa fun _ _ => id
  have rowK : Row Za (if mc = Int.toNat (0 : Int) then mp else Option.map (fun b => Addr.add b (Int.toNat (0 : Int) * 1)) mp) (m * c.size) (fun i => .int .u8 (M i)) := slice_front (RZ.rowR.take (by omega))
  simp only [t0, Nat.zero_add, Nat.sub_zero] at rowK ⊢
  obtain ⟨a1, a2⟩ := appIn (o := 0) (os := []) (e := T.T_uint8) BZa (by omega) (Nat.le_refl _) rfl rowK
  refine ⟨_, _, a1, fun p34 c34 h37 hres => ?_⟩
  obtain ⟨rfl, rfl, u37, B37⟩ := a2 _ _ _ hres
  have h17s : h.size ≤ h17.size := u017.1
  have hP2 : P2.size ≤ h17.size := u17.1
  have n1 : h.size ≠ h17.size := by omega
  have B1c := (B1a.upd uZa id).upd u37 n1
  have P1s : P1.size < h17.size := B2a.lt
  have B2c := (B2a.upd uZa id).upd u37 (by omega)
  let h38 : Heap := setC h37 ⟨h.size, 3, none⟩ (.slice (some ⟨h17.size, 0, none⟩) (m * c.size) (m * c.size))
  have u38 : Upd (fun b => b = h.size) h37 h38 := setC_upd _ _ _
  have B1d : Blk h38 h.size 4 (hpf c (m * c.size) (some ⟨h17.size, 0, none⟩) (m * c.size)) := (B1c.set 3 _).congr fun j hj => by
    have : j = 0 ∨ j = 1 ∨ j = 2 ∨ j = 3 := by omega
    rcases this with rfl | rfl | rfl | rfl <;> rfl
  have B2d := B2c.upd u38 (by omega)
  have BMd := B37.upd u38 (Ne.symm n1)
  refine ⟨by rw [add_mk]; exact B1c.wr (by omega), ?_⟩
  have q0 : cellAt h38 ⟨h.size, 0, none⟩ = some (.int .u64 c.base) := B1d.cell (i := 0) (by omega)
  have q1 : cellAt h38 ⟨h.size, 1, none⟩ = some (.int .u64 (c.size : Int)) := B1d.cell (i := 1) (by omega)
  have q2 : cellAt h38 ⟨h.size, 2, none⟩ = some (.int .i64 c.limit) := B1d.cell (i := 2) (by omega)
  have q3 : cellAt h38 ⟨h.size, 3, none⟩ = some (.slice (some ⟨h17.size, 0, none⟩) (m * c.size) (m * c.size)) := B1d.cell (i := 3) (by omega)
  obtain ⟨r1, r2, r3, r4, r5, r6⟩ := res4 B2d (.int .u64 c.base) (.int .u64 (c.size : Int)) (.int .i64 c.limit) (.slice (some ⟨h17.size, 0, none⟩) (m * c.size) (m * c.size))
  simp only [add_mk, Nat.zero_add]
  refine ⟨_, q0, _, q1, _, q2, _, _, _, q3, r1, _, r2, _, r3, _, r4, _, _, _, r5, ?_⟩
  have u0Z : Upd NoB h Za := u017.nx uZa fun _ e _ => e
  have nw : ∀ {S : Nat → Prop} {ha hb : Heap}, Upd NoB h ha → Upd S ha hb → (∀ b, S b → h.size ≤ b) → Upd NoB h hb := fun u u' hz => u.nx u' fun b e hb => absurd (hz b e) (by omega)
  have uf := nw (nw (nw u0Z u37 fun b e => by omega) u38 fun b e => by omega) r6 fun b e => by omega
  have hZs : h17.size < h38.size := BMd.lt
  refine hg m hm (by omega) _ (some ⟨h17.size, 0, none⟩) (m * c.size) (fun b => b = h17.size) uf (fun b e => by omega) ?_
  refine { good := H.good, nl := by omega, row := .inr ⟨h17.size, _, _, rfl, BMd.upd r6 (by omega), rfl, Nat.le_refl _, fun j hj => ?_⟩, mc := Nat.le_refl _, lt := fun b e => by rw [e, setCs_size]; exact hZs, by8 := fun o ho => H.by8 o (by omega) }
  rw [if_pos (by omega), Nat.sub_zero]

end
end Go.Proofs.Ytfijahblggnbbaa
