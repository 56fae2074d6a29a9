/- slab: the table of widths; a slab in the heap; its calls on the map and the space. No condition. -/
import Derived.Test.YteemmpkhdllapaaDoorZC1
import Derived.Test.YteemmpkhdllapaaDoorZM2
set_option linter.unusedSimpArgs false
set_option linter.unusedVariables false
namespace Go.Proofs.YteemmpkhdllapaaDoor
open Go.V Classical

theorem wU {z : Int} (h : U64 z) : IntKind.wrap .u64 z = z := by
  unfold U64 at h
  rw [IntKind.wrap_u64]; omega
theorem wI {z : Int} (h : bd63 z) : IntKind.wrap .i64 z = z := by
  unfold bd63 at h
  rw [IntKind.wrap_i64]; omega
theorem wUb (z : Int) : U64 (IntKind.wrap .u64 z) := by unfold U64; rw [IntKind.wrap_u64]; omega

def wdt (k : Nat) : Nat := 16 * 2 ^ k

theorem wdt_pos (k : Nat) : 0 < wdt k := Nat.mul_pos (by omega) (Nat.two_pow_pos k)

def Tab (h : Heap) : Prop := ∀ i, i < 8 → cellAt h ⟨0, i, none⟩ = some (.int .u64 (wdt i : Int))

structure TabH (h : Heap) (R : Res) : Prop where
  t : Tab h
  z : ¬ R.fp 0

theorem Tab.pos {h : Heap} (T : Tab h) : 0 < h.size := by
  have := T 0 (by omega)
  refine Nat.pos_of_ne_zero fun e => ?_
  have e2 : h[0]? = none := Array.getElem?_eq_none (by omega)
  simp [cellAt, e2] at this

theorem Tab.upd {h h' : Heap} {S : Nat → Prop} (T : Tab h) (u : Upd S h h') (hs : ¬ S 0) : Tab h' := fun i hi => cellAt_upd (T i hi) u hs

theorem Tab.cell {h : Heap} (T : Tab h) {k : Nat} (hk : k < 8) : cellAt h ((⟨0, 0, none⟩ : Addr).add (Int.toNat (k : Int) * 1)) = some (.int .u64 (wdt k : Int)) := by
  rw [add_mk, Int.toNat_natCast, Nat.mul_one, Nat.zero_add]; exact T k hk

theorem Tab.cell' {h : Heap} (T : Tab h) {k : Nat} {v : Int} (hv : v = k) (hk : k < 8) : cellAt h ((⟨0, 0, none⟩ : Addr).add (Int.toNat v * 1)) = some (.int .u64 (wdt k : Int)) := by
  subst hv; exact T.cell hk

theorem TabH.own {h0 h : Heap} {E : Res} {rs : List Res} (T : TabH h0 E) (I : Go.V.Own h0 h E rs) : Tab h := T.t.upd I.u T.z
theorem TabH.at {h0 h : Heap} {E R : Res} {rs : List Res} (T : TabH h0 E) (I : Go.V.Own h0 h E rs) (i : Nat) (hi : rs[i]? = some R := by rfl) : TabH h R :=
  ⟨T.own I, fun e => (I.ge R (List.mem_of_getElem? hi) 0 e).elim T.z fun e' => by have := T.t.pos; omega⟩
theorem TabH.st {h h' : Heap} {R R' : Res} (T : TabH h R) (S : Stp h h' R R') : TabH h' R' :=
  ⟨T.t.upd S.u T.z, fun e => (S.g 0 e).elim T.z fun e' => by have := T.t.pos; omega⟩
theorem TabH.q {h h' : Heap} {R : Res} (T : TabH h R) (u : Upd NoB h h') : TabH h' R := ⟨T.t.upd u id, T.z⟩
theorem TabH.of {h0 h : Heap} {R : Res} {rs : List Res} (T : Tab h0) (I : Hold h0 h rs) (i : Nat) (hi : rs[i]? = some R := by rfl) : TabH h R :=
  ⟨T.upd I.u id, fun e => by have := I.ge R (List.mem_of_getElem? hi) 0 e; have := T.pos; omega⟩

structure SL where
  sb : Nat
  pl : PL

def slF (pb : Nat) (pt : Nat → Int) : Nat → Value
  | 0 => gptr pb
  | i + 1 => .int .i64 (pt i)

abbrev sR (c : Cfg) (Q : SL) (x : BU) (pt : Nat → Int) : Res := andR (blkR Q.sb 9 (slF Q.pl.pb pt)) (plR c Q.pl x)

abbrev BU.wm (x : BU) (m : MS) : BU := ⟨x.st, x.hd, m⟩
abbrev BU.ws (x : BU) (st : Sto) : BU := ⟨st, x.hd, x.m⟩

structure KI (c : Cfg) (x : BU) : Prop where
  ok : BU.Ok c x
  e : x.m.n = x.st.n * 2 ^ x.m.o
  g : c.Good

theorem WS.ki {S : Nat → Prop} {c : Cfg} {x : BU} {fl : Nat → List Nat} {L : List PBk} (W : WS S c x fl L) : KI c x := ⟨W.ok, W.e, W.g⟩

theorem KI.span {c : Cfg} {x : BU} (k : KI c x) : x.st.n * c.size = 4096 * x.m.n := by
  rw [size_o k.ok, k.e, Nat.mul_left_comm]

theorem ki_set {c : Cfg} {x : BU} {i : Int} {P : Nat → Int} (k : KI c x) (T : PgT P) (h4 : P 0 = 4) : KI c (x.wm (setPg x.m i P)) := by
  refine ⟨⟨setPg_ok k.ok.m T, k.ok.o, fun j hj h2 => ?_⟩, k.e, k.g⟩
  have e : (setPg x.m i P).pg j = if j = i.toNat then P else x.m.pg j := by simp [setPg, putP]
  simp only [] at h2 ⊢
  rw [e] at h2 ⊢
  split at h2
  · rw [h4] at h2; exact absurd h2 (by decide)
  · rename_i hne
    rw [if_neg hne]
    exact k.ok.b j hj h2

theorem ki_sto {c : Cfg} {x : BU} {st' : Sto} (k : KI c x) (hn : st'.n = x.st.n) : KI c (x.ws st') := ⟨⟨k.ok.m, k.ok.o, k.ok.b⟩, by rw [hn]; exact k.e, k.g⟩

/-! ### The calls, with one plain answer each -/
noncomputable def chainU (m : MS) (i p q : Int) : MS := if chainOk m i p q then setPg m i (chainP (m.pg i.toNat) p q) else m
noncomputable def firstU (m : MS) (i p : Int) : MS := if firstOk m i p then setPg m i (firstP (m.pg i.toNat) p) else m
noncomputable def ownU (m : MS) (i p : Int) (l : Bool) : MS := if ownOk m i p l then setPg m i (pown (m.pg i.toNat) p.toNat l) else m
noncomputable def slabU (m : MS) (i p : Int) : MS := if slabOk m i p then setPg m i (slabP p) else m
noncomputable def runI (m : MS) (i : Int) : MS := if runOk m i 0 2 then { m with pg := runP m.pg i.toNat 0 2 } else m
noncomputable def pgA (m : MS) (i : Int) : Nat → Int := if 0 ≤ i ∧ i < m.n then m.pg i.toNat else fun _ => 0
noncomputable def wrU (c : Cfg) (st : Sto) (p v : Int) : Sto := if There c st.n p 8 then st.wr c p v else st
noncomputable def rdU (c : Cfg) (st : Sto) (p : Int) : Int := if There c st.n p 8 then st.rd c p else 0

@[simp] theorem chainU_o (m : MS) (i p q : Int) : (chainU m i p q).o = m.o := by unfold chainU; split <;> rfl
@[simp] theorem chainU_n (m : MS) (i p q : Int) : (chainU m i p q).n = m.n := by unfold chainU; split <;> rfl
@[simp] theorem chainU_bt (m : MS) (i p q : Int) : (chainU m i p q).bt = m.bt := by unfold chainU; split <;> rfl
@[simp] theorem firstU_o (m : MS) (i p : Int) : (firstU m i p).o = m.o := by unfold firstU; split <;> rfl
@[simp] theorem firstU_n (m : MS) (i p : Int) : (firstU m i p).n = m.n := by unfold firstU; split <;> rfl
@[simp] theorem firstU_bt (m : MS) (i p : Int) : (firstU m i p).bt = m.bt := by unfold firstU; split <;> rfl
@[simp] theorem ownU_o (m : MS) (i p : Int) (l : Bool) : (ownU m i p l).o = m.o := by unfold ownU; split <;> rfl
@[simp] theorem ownU_n (m : MS) (i p : Int) (l : Bool) : (ownU m i p l).n = m.n := by unfold ownU; split <;> rfl
@[simp] theorem ownU_bt (m : MS) (i p : Int) (l : Bool) : (ownU m i p l).bt = m.bt := by unfold ownU; split <;> rfl
@[simp] theorem slabU_o (m : MS) (i p : Int) : (slabU m i p).o = m.o := by unfold slabU; split <;> rfl
@[simp] theorem slabU_n (m : MS) (i p : Int) : (slabU m i p).n = m.n := by unfold slabU; split <;> rfl
@[simp] theorem slabU_bt (m : MS) (i p : Int) : (slabU m i p).bt = m.bt := by unfold slabU; split <;> rfl
@[simp] theorem runI_o (m : MS) (i : Int) : (runI m i).o = m.o := by unfold runI; split <;> rfl
@[simp] theorem runI_n (m : MS) (i : Int) : (runI m i).n = m.n := by unfold runI; split <;> rfl
@[simp] theorem runI_bt (m : MS) (i : Int) : (runI m i).bt = m.bt := by unfold runI; split <;> rfl
@[simp] theorem wrU_n (c : Cfg) (st : Sto) (p v : Int) : (wrU c st p v).n = st.n := by unfold wrU; split <;> rfl

section
variable {w₀ : World} {h h' : Heap} {c : Cfg} {Q : SL} {x : BU} {pt : Nat → Int} {K : Value → Heap → Prop}

theorem ki_chain {i p q : Int} (k : KI c x) : KI c (x.wm (chainU x.m i p q)) := by
  unfold chainU
  split
  · rename_i hc
    obtain ⟨h0, h1, h4, hp1, hp2, hq1, hq2⟩ := hc
    have n1 := k.ok.m.n1
    exact ki_set k (chainP_t (by unfold bd63; omega) (by unfold bd63; omega) (k.ok.m.pg i.toNat (by omega))) h4
  · exact k

theorem ki_first {i p : Int} (k : KI c x) : KI c (x.wm (firstU x.m i p)) := by
  unfold firstU
  split
  · rename_i hc
    obtain ⟨h0, h1, h4, hp1, hp2⟩ := hc
    have n1 := k.ok.m.n1
    have : ncells (x.m.pg i.toNat) ≤ 256 := Nat.div_le_self _ _
    exact ki_set k (firstP_t (by unfold bd63; omega) (k.ok.m.pg i.toNat (by omega))) h4
  · exact k

theorem ki_own {i p : Int} {l : Bool} (k : KI c x) : KI c (x.wm (ownU x.m i p l)) := by
  unfold ownU
  split
  · rename_i hc
    obtain ⟨h0, h1, h4, hp1, hp2, hp3⟩ := hc
    have n1 := k.ok.m.n1
    have : ncells (x.m.pg i.toNat) ≤ 256 := Nat.div_le_self _ _
    refine ki_set k (pown_t (by omega) (k.ok.m.pg i.toNat (by omega))) ?_
    unfold pown
    rw [if_neg (by omega), if_neg (by omega)]; exact h4
  · exact k

theorem ki_slab {i p : Int} (k : KI c x) : KI c (x.wm (slabU x.m i p)) := by
  unfold slabU
  split
  · rename_i hc
    exact ki_set k (slabP_t ⟨hc.2.2.1, hc.2.2.2⟩) rfl
  · exact k

theorem ki_run {i : Int} (k : KI c x) : KI c (x.wm (runI x.m i)) := by
  unfold runI
  split
  · rename_i hc
    obtain ⟨_, _, h1, h2, h3, h4⟩ := hc
    have e : runU x.m i.toNat 0 2 = { x.m with pg := runP x.m.pg i.toNat 0 2 } := by unfold runU; rw [if_pos ⟨Nat.zero_le _, h3, h4⟩]
    have := run_b k.ok (i := i.toNat) (r := 0) (.inr rfl)
    rw [e] at this
    exact ⟨this, k.e, k.g⟩
  · exact k

theorem s_c0 (H : (sR c Q x pt).P h) : cellAt h ⟨Q.sb, 0, none⟩ = some (gptr Q.pl.pb) := H.1.cell (i := 0) (by omega)
theorem s_pt (H : (sR c Q x pt).P h) {k : Nat} (hk : k < 8) : cellAt h (((⟨Q.sb, 0, none⟩ : Addr).add 1).add (Int.toNat (k : Int) * 1)) = some (.int .i64 (pt k)) := by
  rw [add_mk, add_mk, Int.toNat_natCast, Nat.mul_one, Nat.zero_add, Nat.add_comm]; exact H.1.cell (i := k + 1) (by omega)
theorem s_wr (H : (sR c Q x pt).P h) {k : Nat} (hk : k < 8) : Wr h (((⟨Q.sb, 0, none⟩ : Addr).add 1).add (Int.toNat (k : Int) * 1)) := by
  rw [add_mk, add_mk, Int.toNat_natCast, Nat.mul_one, Nat.zero_add, Nat.add_comm]; exact H.1.wr (i := k + 1) (by omega)
theorem s_set (H : (sR c Q x pt).P h) {k : Nat} (hk : k < 8) (v : Int) : Stp h (setC h (((⟨Q.sb, 0, none⟩ : Addr).add 1).add (Int.toNat (k : Int) * 1)) (.int .i64 v)) (sR c Q x pt) (sR c Q x (fset pt k v)) := by
  rw [add_mk, add_mk, Int.toNat_natCast, Nat.mul_one, Nat.zero_add, Nat.add_comm 1 k]
  refine (Stp.set (f := slF Q.pl.pb pt) H.1 (k + 1) (.int .i64 v) fun j hj => ?_).left H
  cases j with
  | zero => rw [if_neg (by omega)]; rfl
  | succ j =>
    show _ = Value.int .i64 (fset pt k v j)
    unfold fset
    by_cases e : j = k
    · subst e; rw [if_pos rfl, if_pos rfl]
    · rw [if_neg (by omega), if_neg e]; rfl
theorem s_pl (H : (sR c Q x pt).P h) : (plR c Q.pl x).P h := H.2.1
theorem s_mp (H : (sR c Q x pt).P h) : (mapR Q.pl.B.mb x.m Q.pl.B.w).P h := bu_map (pl_bu H.2.1)
theorem s_sp (H : (sR c Q x pt).P h) : (spR Q.pl.B.s c Q.pl.B.Z x.st).P h := bu_sp (pl_bu H.2.1)

theorem s_map (H : (sR c Q x pt).P h) {m' : MS} (ho : m'.o = x.m.o) (S : Stp h h' (mapR Q.pl.B.mb x.m Q.pl.B.w) (mapR Q.pl.B.mb m' Q.pl.B.w)) : Stp h h' (sR c Q x pt) (sR c Q (x.wm m') pt) :=
  (pl_lift' (s_pl H) (bu_liftm (pl_bu (s_pl H)) ho S)).right H
theorem s_sto (H : (sR c Q x pt).P h) {st' : Sto} (S : Stp h h' (spR Q.pl.B.s c Q.pl.B.Z x.st) (spR Q.pl.B.s c Q.pl.B.Z st')) : Stp h h' (sR c Q x pt) (sR c Q (x.ws st') pt) :=
  (pl_lift' (s_pl H) (bu_liftsp (pl_bu (s_pl H)) S)).right H
theorem s_pool (H : (sR c Q x pt).P h) {x' : BU} {P' : PL} (hq : P'.pb = Q.pl.pb) (S : Stp h h' (plR c Q.pl x) (plR c P' x')) : Stp h h' (sR c Q x pt) (sR c ⟨Q.sb, P'⟩ x' pt) := by
  have T := S.right H
  unfold sR
  rw [hq]
  exact T

theorem at_ok {i : Int} (H : (mapR Q.pl.B.mb x.m Q.pl.B.w).P h) (hK : ∀ (b : Bool) h', Upd NoB h h' → K (.tuple #[pgv (pgA x.m i), .bool b]) h') : CallV Tryd.prog w₀ F.pagemap_Map_At [gptr Q.pl.B.mb, .int .i64 i] h K := by
  refine pm_At_ok (o := x.m.o) (n := x.m.n) H (fun m e hm h1 u1 => ?_) fun hn h1 u1 => ?_
  · subst e
    have := hK true h1 u1
    unfold pgA at this
    rw [if_pos ⟨by omega, by omega⟩, Int.toNat_natCast] at this
    exact this
  · have := hK false h1 u1
    unfold pgA at this
    rw [if_neg hn] at this
    exact this

theorem chain_ok {i p q : Int} (k : KI c x) (H : (sR c Q x pt).P h) (hK : ∀ v h', Stp h h' (sR c Q x pt) (sR c Q (x.wm (chainU x.m i p q)) pt) → K (.int .i64 v) h') :
    CallV Tryd.prog w₀ F.pagemap_Map_Chain [gptr Q.pl.B.mb, .int .i64 i, .int .i64 p, .int .i64 q] h K := by
  unfold chainU at hK
  refine pm_Chain_ok (o := x.m.o) (n := x.m.n) k.ok.m.n1 (s_mp H) (fun m e hm h4 p1 p2 q1 q2 h1 S => ?_) fun hn h1 u1 => ?_
  · subst e
    rw [if_pos (show chainOk x.m m p q from ⟨by omega, by omega, by rw [Int.toNat_natCast]; exact h4, p1, p2, q1, q2⟩)] at hK
    exact hK _ _ (s_map (m' := setPg x.m m (chainP (x.m.pg (m : Int).toNat) p q)) H rfl (by simp only [setPg, Int.toNat_natCast]; exact S))
  · rw [if_neg (show ¬ chainOk x.m i p q from hn)] at hK
    exact hK _ _ (Stp.quiet H u1)

theorem first_ok {i p : Int} (k : KI c x) (H : (sR c Q x pt).P h) (hK : ∀ v h', Stp h h' (sR c Q x pt) (sR c Q (x.wm (firstU x.m i p)) pt) → K (.int .i64 v) h') :
    CallV Tryd.prog w₀ F.pagemap_Map_First [gptr Q.pl.B.mb, .int .i64 i, .int .i64 p] h K := by
  unfold firstU at hK
  refine pm_First_ok (o := x.m.o) (n := x.m.n) k.ok.m.pg (s_mp H) (fun m e hm h4 p1 p2 h1 S => ?_) fun hn h1 u1 => ?_
  · subst e
    rw [if_pos (show firstOk x.m m p from ⟨by omega, by omega, by rw [Int.toNat_natCast]; exact h4, p1, by rw [Int.toNat_natCast]; exact p2⟩)] at hK
    exact hK _ _ (s_map (m' := setPg x.m m (firstP (x.m.pg (m : Int).toNat) p)) H rfl (by simp only [setPg, Int.toNat_natCast]; exact S))
  · rw [if_neg (show ¬ firstOk x.m i p from hn)] at hK
    exact hK _ _ (Stp.quiet H u1)

theorem own_ok {i p : Int} {l : Bool} (k : KI c x) (H : (sR c Q x pt).P h) (hK : ∀ v h', Stp h h' (sR c Q x pt) (sR c Q (x.wm (ownU x.m i p l)) pt) → K (.int .i64 v) h') :
    CallV Tryd.prog w₀ F.pagemap_Map_Own [gptr Q.pl.B.mb, .int .i64 i, .int .i64 p, .bool l] h K := by
  unfold ownU at hK
  refine pm_Own_ok (o := x.m.o) (n := x.m.n) k.ok.m.pg (s_mp H) (fun m j e hm h4 ej hj hb h1 S => ?_) fun hn h1 u1 => ?_
  · subst e; subst ej
    rw [if_pos (show ownOk x.m m j l from ⟨by omega, by omega, by rw [Int.toNat_natCast]; exact h4, by omega, by rw [Int.toNat_natCast]; omega, by rw [Int.toNat_natCast, Int.toNat_natCast]; exact hb⟩)] at hK
    exact hK _ _ (s_map (m' := setPg x.m m (pown (x.m.pg (m : Int).toNat) (j : Int).toNat l)) H rfl (by simp only [setPg, Int.toNat_natCast]; exact S))
  · rw [if_neg (show ¬ ownOk x.m i p l from hn)] at hK
    exact hK _ _ (Stp.quiet H u1)

theorem slabm_ok {i p : Int} (H : (sR c Q x pt).P h) (hK : ∀ v h', Stp h h' (sR c Q x pt) (sR c Q (x.wm (slabU x.m i p)) pt) → K (.int .i64 v) h') :
    CallV Tryd.prog w₀ F.pagemap_Map_Slab [gptr Q.pl.B.mb, .int .i64 i, .int .i64 p] h K := by
  unfold slabU at hK
  refine pm_Slab_ok (o := x.m.o) (n := x.m.n) (s_mp H) (fun m e hm p1 p2 h1 S => ?_) fun hn h1 u1 => ?_
  · subst e
    rw [if_pos (show slabOk x.m m p from ⟨by omega, by omega, p1, p2⟩)] at hK
    exact hK _ _ (s_map (m' := setPg x.m m (slabP p)) H rfl (by simp only [setPg, Int.toNat_natCast]; exact S))
  · rw [if_neg (show ¬ slabOk x.m i p from hn)] at hK
    exact hK _ _ (Stp.quiet H u1)

theorem run1_ok {i : Int} (hi : bd63 i) (k : KI c x) (H : (sR c Q x pt).P h) (hK : ∀ v h', Stp h h' (sR c Q x pt) (sR c Q (x.wm (runI x.m i)) pt) → K (.int .i64 v) h') :
    CallV Tryd.prog w₀ F.pagemap_Map_Run [gptr Q.pl.B.mb, .int .i64 i, .int .i64 0, .int .i64 2] h K := by
  unfold runI at hK
  refine pm_Run_ok (o := x.m.o) (n := x.m.n) k.ok.m.o8 k.ok.m.n1 hi (s_mp H) (fun m r e er hr h1 h2 hk h1' S => ?_) fun hn h1 u1 => ?_
  · subst e
    have er : r = 0 := by omega
    subst er
    rw [if_pos (show runOk x.m m 0 2 from ⟨.inr rfl, by omega, by omega, by omega, by rw [Int.toNat_natCast]; exact h1, by rw [Int.toNat_natCast]; exact h2⟩)] at hK
    exact hK _ _ (s_map (m' := { x.m with pg := runP x.m.pg (m : Int).toNat 0 2 }) H rfl (by simp only [Int.toNat_natCast]; exact S))
  · rw [if_neg (show ¬ runOk x.m i 0 2 from hn)] at hK
    exact hK _ _ (Stp.quiet H u1)

theorem sset_ok {p v : Int} (hp : U64 p) (hv : U64 v) (H : (sR c Q x pt).P h) (hK : ∀ e h', Stp h h' (sR c Q x pt) (sR c Q (x.ws (wrU c x.st p v)) pt) → K (.int .i64 e) h') :
    CallV Tryd.prog w₀ F.mem_Space_SetWord [gptr Q.pl.B.s, .int .u64 p, .int .u64 v] h K := by
  unfold wrU at hK
  refine mem_SetWord_ok hp hv (s_sp H) (fun t h1 u1 H1 => ?_) fun t h1 u1 => ?_
  · rw [if_pos t] at hK
    exact hK _ _ (s_sto H ⟨u1, H1, fun b e => .inl e⟩)
  · rw [if_neg t] at hK
    exact hK _ _ (Stp.quiet H u1)

theorem sword_ok {p : Int} (hp : U64 p) (H : (sR c Q x pt).P h) (hK : ∀ e h', Upd NoB h h' → K (.tuple #[.int .u64 (rdU c x.st p), .int .i64 e]) h') :
    CallV Tryd.prog w₀ F.mem_Space_Word [gptr Q.pl.B.s, .int .u64 p] h K := by
  unfold rdU at hK
  refine mem_Word_ok hp (s_sp H) (fun t h1 u1 => ?_) fun t h1 u1 => ?_
  · rw [if_pos t] at hK
    exact hK _ _ u1
  · rw [if_neg t] at hK
    exact hK _ _ u1

theorem base_ok (k : KI c x) (H : (sR c Q x pt).P h) (hK : K (.int .u64 c.base) h) : CallV Tryd.prog w₀ F.slab_Slab_base [gptr Q.sb] h K := by
  have s0 := s_c0 H
  refine slab_Slab_base.call ⟨_, rfl, _, s0, _, rfl, _, rfl, _, s0, _, rfl, ground_Space_ok (s_pl H) ⟨_, rfl, s0, ground_Map_ok (s_pl H) ⟨_, rfl, mem_End_ok (s_sp H) ⟨_, rfl, pm_Pages_ok (s_mp H) ⟨_, rfl, ?_⟩⟩⟩⟩⟩
  have bb := bu_bounds k.g k.ok.m
  have e := k.span
  have e1 : IntKind.wrap .u64 ((c.base + ((x.st.n * c.size : Nat) : Int)) - (IntKind.wrap .u64 ((4096 : Int) * (IntKind.wrap .u64 (x.m.n : Int))))) = c.base := by
    rw [e, wU (z := (x.m.n : Int)) (by unfold U64; omega), wU (z := 4096 * (x.m.n : Int)) (by unfold U64; omega), wU (by unfold U64; omega)]
    omega
  rw [e1]
  exact hK
end
end Go.Proofs.YteemmpkhdllapaaDoor
