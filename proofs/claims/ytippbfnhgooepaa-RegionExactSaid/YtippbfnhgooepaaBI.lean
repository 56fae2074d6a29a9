/- croftlaw5: a world: begin, come, goes, at, page. No condition. -/
import Derived.Test.YtippbfnhgooepaaM7
import Derived.Test.YtippbfnhgooepaaM3
set_option linter.unusedSimpArgs false
set_option linter.unusedVariables false
namespace Go.Proofs.Ytippbfnhgooepaa
open Go.V Classical

theorem box3 (h : Heap) (v0 v1 v2 : Value) (T : TypeId) : New h (h.push (.cells #[v0, v1, v2] T)) (blkR h.size 3 (f3 v0 v1 v2)) :=
  (New.box h #[v0, v1, v2] T).conv (fun P => Blk.congr P fun i hi => by
    have hi : i < 3 := hi
    have : i = 0 ∨ i = 1 ∨ i = 2 := by omega
    rcases this with rfl | rfl | rfl <;> rfl) fun _ e => e

theorem assign3 {h : Heap} {b : Nat} {f : Nat → Value} (B : Blk h b 3 f) (v0 v1 v2 : Value) : WrN h ⟨b, 0, none⟩ 3 ∧ Stp h (setCs h ⟨b, 0, none⟩ 0 [v0, v1, v2]) (blkR b 3 f) (blkR b 3 (f3 v0 v1 v2)) := by
  refine ⟨fun j hj => by rw [add_mk]; exact B.wr (by omega), Stp.sets B [v0, v1, v2] 0 0 fun j hj => ?_⟩
  rw [if_pos ⟨by omega, by simpa using hj⟩]
  have : j = 0 ∨ j = 1 ∨ j = 2 := by omega
  rcases this with rfl | rfl | rfl <;> rfl

theorem f3_cells {h : Heap} {b : Nat} {v0 v1 v2 : Value} (B : (blkR b 3 (f3 v0 v1 v2)).P h) : cellAt h ⟨b, 0, none⟩ = some v0 ∧ cellAt h ((⟨b, 0, none⟩ : Addr).add 1) = some v1 ∧ cellAt h ((⟨b, 0, none⟩ : Addr).add 2) = some v2 :=
  ⟨B.cell (i := 0) (by omega), by rw [add_mk]; exact B.cell (i := 1) (by omega), by rw [add_mk]; exact B.cell (i := 2) (by omega)⟩

/-- Regions as the document's live blocks. -/
def liveRow (o r : Nat) : List (Int × Int) := (List.range r).map fun i => (((i * 2 ^ o : Nat) : Int), (o : Int))

theorem liveRow_len (o r : Nat) : (liveRow o r).length = r := by simp [liveRow]
theorem liveRow_succ (o r : Nat) : liveRow o (r + 1) = liveRow o r ++ [(((r * 2 ^ o : Nat) : Int), (o : Int))] := by simp [liveRow, List.range_succ]
theorem liveRow_less (o r : Nat) : (liveRow o (r + 1)).filter (·.1 ≠ ((r * 2 ^ o : Nat) : Int)) = liveRow o r := by
  have h0 := Nat.two_pow_pos o
  rw [liveRow_succ, List.filter_append]
  have h1 : (liveRow o r).filter (·.1 ≠ ((r * 2 ^ o : Nat) : Int)) = liveRow o r := List.filter_eq_self.2 fun a ha => by
    obtain ⟨i, hi, rfl⟩ := List.mem_map.1 ha
    have hi := List.mem_range.1 hi
    have : i * 2 ^ o < r * 2 ^ o := Nat.mul_lt_mul_of_pos_right hi h0
    simp only [ne_eq, decide_not, Bool.not_eq_true', decide_eq_false_iff_not]
    omega
  rw [h1]
  simp

/-- Where a world lies. -/
structure WW where
  wb : Nat
  W : BW
  fp : Option Addr
  fn : Nat
  fc : Nat
  vp : Option Addr
  vc : Nat

def wF (c : Cfg) (Q : WW) (o P r : Nat) : Nat → Value
  | 0 => .int .u64 c.base
  | 1 => .int .i64 c.limit
  | 2 => .int .i64 c.order
  | 3 => .pointer (some ⟨Q.W.s, 0, none⟩)
  | 4 => .pointer (some ⟨Q.W.mb, 0, none⟩)
  | 5 => .pointer (some ⟨Q.W.b, 0, none⟩)
  | 6 => .int .i64 (o : Int)
  | 7 => .int .i64 (P : Int)
  | 8 => .slice Q.fp Q.fn Q.fc
  | _ => .slice Q.vp r Q.vc

/-- A world: its block, the document's live blocks, the rest. -/
abbrev whR (c : Cfg) (Q : WW) (o P r : Nat) : Res := andR (blkR Q.wb 10 (wF c Q o P r)) (slR Q.vp r Q.vc 2 (runV (liveRow o r)))
abbrev wdR (c : Cfg) (Q : WW) (P r : Nat) (x : BU) : Res := andR (whR c Q x.m.o P r) (buR c Q.W x)

noncomputable def usualC (a b d : Int) : Cfg := if Cfg.Good ⟨a, b, d⟩ then ⟨a, b, d⟩ else ⟨65536, 2, 2⟩

theorem usual_good (a b d : Int) : (usualC a b d).Good := by
  unfold usualC
  split
  · assumption
  · exact good_iff.2 (by decide)

theorem usual_u64 {a b d : Int} (ha : U64 a) : U64 (usualC a b d).base := by
  unfold usualC
  split
  · exact ha
  · simp [U64]

/-- No region. -/
def BU0 (c : Cfg) : BU := ⟨⟨0, fun _ => 0⟩, fun _ => 0, mNew c.order⟩

theorem clamp_o {c : Cfg} (g : c.Good) : clampO c.order = c.order.toNat := by
  have := g.o0; have := g.o8
  unfold clampO
  rw [if_neg (by omega), if_neg (by omega)]

theorem rep0 {c : Cfg} (g : c.Good) : Rep c (BU0 c) (fun _ => []) [] [] := by
  have o0 := g.o0
  have ho : (BU0 c).m.o = c.order.toNat := clamp_o g
  have hb : blks (BU0 c).m.o (fun _ => []) = [] := by simp [blks]
  refine ⟨⟨mNew_ok _, by rw [ho]; omega, fun i hi => absurd hi (Nat.not_lt_zero _)⟩, ⟨⟨g.b0, ?_⟩, Nat.zero_le _, ?_⟩, ?_, fun _ _ _ h => (by cases h), fun k hk => ⟨rfl, .nil, fun p hp => (by cases hp), trivial⟩, fun _ _ _ h => (by cases h), fun b hb => (by cases hb), fun k p _ _ h => absurd h (Nat.not_lt_zero _)⟩
  · have := g.top
    have h3 : (0 : Int) ≤ c.size * c.limit := Int.mul_nonneg (by omega) (by have := g.l1; omega)
    omega
  · show 0 * 4096 ≤ 0 * c.size
    omega
  · rw [hb]
    exact ⟨fun b hb => (by cases hb), .nil, fun q hq => absurd hq (Nat.not_lt_zero _)⟩

section
variable {w₀ : World} {h h' : Heap} {c : Cfg} {Q : WW} {P r : Nat} {x : BU} {K : Value → Heap → Prop}

theorem wd_cell (H : (wdR c Q P r x).P h) {i : Nat} (hi : i < 10) : cellAt h ((⟨Q.wb, 0, none⟩ : Addr).add i) = some (wF c Q x.m.o P r i) := by rw [add_mk, Nat.zero_add]; exact H.1.1.cell hi
theorem wd_c0 (H : (wdR c Q P r x).P h) : cellAt h ⟨Q.wb, 0, none⟩ = some (.int .u64 c.base) := H.1.1.cell (i := 0) (by omega)
theorem wd_bu (H : (wdR c Q P r x).P h) : (buR c Q.W x).P h := H.2.1
theorem wd_row (H : (wdR c Q P r x).P h) : Row h Q.vp ((liveRow x.m.o r).length * 2) (runV (liveRow x.m.o r)) := by rw [liveRow_len]; exact sl_row H.1.2.1

theorem wd_lift {x' : BU} (H : (wdR c Q P r x).P h) (ho : x'.m.o = x.m.o) {W' : BW} (hw : W'.s = Q.W.s ∧ W'.mb = Q.W.mb ∧ W'.b = Q.W.b) (S : Stp h h' (buR c Q.W x) (buR c W' x')) : Stp h h' (wdR c Q P r x) (wdR c { Q with W := W' } P r x') := by
  have T := S.right H
  have e : wF c { Q with W := W' } x.m.o P r = wF c Q x.m.o P r := by
    funext i
    obtain ⟨h1, h2, h3⟩ := hw
    unfold wF
    split <;> simp [h1, h2, h3]
  unfold wdR whR
  simp only [ho]
  rw [e]
  exact T

theorem wd_lift' {x' : BU} (H : (wdR c Q P r x).P h) (ho : x'.m.o = x.m.o) (S : Stp h h' (buR c Q.W x) (buR c Q.W x')) : Stp h h' (wdR c Q P r x) (wdR c Q P r x') := wd_lift (W' := Q.W) H ho ⟨rfl, rfl, rfl⟩ S

/-- The document's part is laid anew. -/
theorem wd_setd (H : (wdR c Q P r x).P h) {vp' : Option Addr} {vc' r' P' : Nat} (N : New h h' (slR vp' r' vc' 2 (runV (liveRow x.m.o r')))) :
    WrN h' ((⟨Q.wb, 0, none⟩ : Addr).add 6) 4 ∧
    Stp h (setCs h' ((⟨Q.wb, 0, none⟩ : Addr).add 6) 0 [.int .i64 (x.m.o : Int), .int .i64 (P' : Int), .slice Q.fp Q.fn Q.fc, .slice vp' r' vc']) (wdR c Q P r x) (wdR c { Q with vp := vp', vc := vc' } P' r' x) := by
  have S1 := Stp.new H N
  have H1 := S1.p
  have B : Blk h' Q.wb 10 (wF c Q x.m.o P r) := H1.1.1.1
  rw [add_mk, Nat.zero_add]
  have S2 := Stp.sets B [.int .i64 (x.m.o : Int), .int .i64 (P' : Int), .slice Q.fp Q.fn Q.fc, .slice vp' r' vc'] 6 0 (g := wF c { Q with vp := vp', vc := vc' } x.m.o P' r') fun j hj => by
    have : j = 0 ∨ j = 1 ∨ j = 2 ∨ j = 3 ∨ j = 4 ∨ j = 5 ∨ j = 6 ∨ j = 7 ∨ j = 8 ∨ j = 9 := by omega
    rcases this with rfl | rfl | rfl | rfl | rfl | rfl | rfl | rfl | rfl | rfl <;> rfl
  refine ⟨fun j hj => by rw [add_mk]; exact B.wr (by omega), ?_⟩
  have S3 := S1.trans (((S2.left H1.1.1).left H1.1).left H1)
  refine S3.conv (fun A => ⟨⟨A.1.1.1, A.2.1, fun b e e' => A.2.2 b (.inl (.inl e)) e'⟩, A.1.2.1, fun b e e' => ?_⟩) fun b e => ?_
  · rcases e with e | e
    · exact A.1.2.2 b (.inl e) e'
    · exact A.2.2 b (.inr e') e
  · rcases e with (e | e) | e
    · exact .inl (.inl (.inl e))
    · exact .inr e
    · exact .inl (.inr e)

theorem front5 {h0 h : Heap} {rs : List Res} {A B C D E : Res} (H : Hold h0 h (A :: B :: C :: D :: E :: rs)) : Hold h0 h (E :: A :: B :: C :: D :: rs) :=
  (H.perm (.cons _ (.cons _ (.cons _ (.swap _ _ _))))).front4

theorem commit_ok {s : Nat} {Z : Nat → Prop} {st : Sto} (H : (spR s c Z st).P h) (hl : (st.n : Int) < c.limit) (hK : ∀ (Z' : Nat → Prop) (h' : Heap), Stp h h' (spR s c Z st) (spR s c Z' (growS c st)) → K (.tuple #[.int .u64 (c.base + (st.n * c.size : Nat)), .int .i64 0]) h') :
    CallV Try.prog w₀ F.mem_Space_Commit [.pointer (some ⟨s, 0, none⟩), .bool false] h K := by
  refine mem_Commit_ok H (fun e => ?_) fun _ _ h' u H' => hK _ h' ⟨u, H', fun b e => ?_⟩
  · rcases e with e | e
    · cases e
    · omega
  · rcases e with e | e
    · exact .inl e
    · exact .inr e.1

theorem apart_none (e : x.m.n = x.st.n * 2 ^ x.m.o) (st' : Sto) (hs : st'.n = x.st.n + 1) : topU ⟨st', x.hd, x.m⟩ = none := by
  unfold topU
  rw [if_neg]
  rintro ⟨_, h2⟩
  have h2 : x.m.n = st'.n * 2 ^ x.m.o := h2
  rw [hs, e, Nat.succ_mul] at h2
  have := Nat.two_pow_pos x.m.o
  omega

end
end Go.Proofs.Ytippbfnhgooepaa
