/- croftlaw6: RegionExact. No condition. -/
import Derived.Test.YtippbfnhgooepaaZC9
import Derived.Test.YtippbfnhgooepaaZBP
import Derived.Test.YtippbfnhgooepaaZGcroftlaw6RegionExact
set_option linter.unusedSimpArgs false
set_option linter.unusedVariables false
namespace Go.Proofs.Ytippbfnhgooepaa
open Go.V Classical

structure SnOk (h : Heap) (st : Sto) (s : Sn) : Prop where
  n : s.dn ≤ 4096 * 2 ^ s.k
  c : s.dn ≤ s.dc ∧ s.dc < 9223372036854775808
  r : Row h s.dp s.dn fun i => .int .u8 (s.g i)
  m : ∀ j, j < s.dn → st.M (4096 * s.p + j) = s.g j

def f7 (v0 v1 v2 v3 v4 v5 v6 : Value) : Nat → Value
  | 0 => v0
  | 1 => v1
  | 2 => v2
  | 3 => v3
  | 4 => v4
  | 5 => v5
  | _ => v6

theorem box7 (h : Heap) (v0 v1 v2 v3 v4 v5 v6 : Value) (T : TypeId) : New h (h.push (.cells #[v0, v1, v2, v3, v4, v5, v6] T)) (blkR h.size 7 (f7 v0 v1 v2 v3 v4 v5 v6)) :=
  (New.box h #[v0, v1, v2, v3, v4, v5, v6] T).conv (fun P => Blk.congr P fun i hi => by
    have hi : i < 7 := hi
    have : i = 0 ∨ i = 1 ∨ i = 2 ∨ i = 3 ∨ i = 4 ∨ i = 5 ∨ i = 6 := by omega
    rcases this with rfl | rfl | rfl | rfl | rfl | rfl | rfl <;> rfl) fun _ e => e

theorem f7_cell {h : Heap} {b : Nat} {v0 v1 v2 v3 v4 v5 v6 : Value} (B : (blkR b 7 (f7 v0 v1 v2 v3 v4 v5 v6)).P h) {i : Nat} (hi : i < 7) : cellAt h ((⟨b, 0, none⟩ : Addr).add i) = some (f7 v0 v1 v2 v3 v4 v5 v6 i) := by rw [add_mk, Nat.zero_add]; exact Blk.cell B hi

section
variable {w₀ : World} {h h' : Heap} {c : Cfg} {Q : PL} {x : BU} {K : Value → Heap → Prop} {fl : Nat → List Nat} {L : List PBk} {p k : Nat}

theorem writeP (W : WI c x fl L) (hb : (p, k) ∈ L) {m cap : Nat} {g : Nat → Int} {q : Option Addr} (hm : m ≤ 4096 * 2 ^ k) (hmc : m ≤ cap) (H : (plR c Q x).P h) (hr : Row h q m (fun i => .int .u8 (g i))) (hg : ∀ i, i < m → 0 ≤ g i ∧ g i < 256) (hoff : m = 0 ∨ Off Q.B.Z q)
    (hK : ∀ st' h', st'.n = x.st.n → (∀ j, j < m → st'.M (4096 * p + j) = g j) → (∀ o, (o < 4096 * p ∨ 4096 * p + m ≤ o) → st'.M o = x.st.M o) → WI c ⟨st', x.hd, x.m⟩ fl L → Stp h h' (plR c Q x) (plR c Q ⟨st', x.hd, x.m⟩) → K (.int .i64 0) h') :
    CallV Try.prog w₀ F.mem_Space_Write [.pointer (some ⟨Q.B.s, 0, none⟩), .int .u64 (adr c p), .slice q m cap] h K := by
  obtain ⟨t, hu, hle, k8, hp4⟩ := live_there W hb W.g
  have h8 := pow8 k8
  have t' : There c x.st.n (adr c p) m := by
    rcases t with t | ⟨t1, t2⟩
    · exact .inl (by omega)
    · exact .inr ⟨t1, by omega⟩
  refine mem_Write_ok hu (by omega) hmc (bu_sp (pl_bu H)) hr hg hoff (fun _ h1 u1 H1 => ?_) fun hn => absurd t' hn
  have e1 : (adr c p - c.base).toNat = 4096 * p := by unfold adr; omega
  rw [e1] at H1
  let st' : Sto := ⟨x.st.n, fun o => if 4096 * p ≤ o ∧ o < 4096 * p + m then g (o - 4096 * p) else x.st.M o⟩
  have hM : ∀ o, (o < 4096 * p ∨ 4096 * p + m ≤ o) → st'.M o = x.st.M o := fun o ho => by
    show (if 4096 * p ≤ o ∧ o < 4096 * p + m then _ else x.st.M o) = _
    rw [if_neg (by omega)]
  have S1 : Stp h h1 (spR Q.B.s c Q.B.Z x.st) (spR Q.B.s c Q.B.Z st') := ⟨u1, H1, fun b e => .inl e⟩
  refine hK st' h1 rfl (fun j hj => ?_) hM ⟨W.rep.fill hb rfl fun o ho => hM o (by rcases ho with ho | ho; exact .inl ho; right; rw [Nat.mul_add] at ho; omega), W.e, W.g⟩ (pl_lift' (x' := ⟨st', x.hd, x.m⟩) H (bu_liftsp (pl_bu H) S1))
  show (if 4096 * p ≤ 4096 * p + j ∧ 4096 * p + j < 4096 * p + m then g (4096 * p + j - 4096 * p) else _) = _
  rw [if_pos ⟨by omega, by omega⟩, Nat.add_sub_cancel_left]

end
end Go.Proofs.Ytippbfnhgooepaa
