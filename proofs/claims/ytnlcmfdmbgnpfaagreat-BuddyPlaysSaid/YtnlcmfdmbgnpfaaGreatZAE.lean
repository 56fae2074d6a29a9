/- croftlaw5: the world with the document's own buddy. No condition. -/
import Derived.Test.YtnlcmfdmbgnpfaaGreatZAD
import Derived.Test.YtnlcmfdmbgnpfaaGreatZC0
set_option linter.unusedSimpArgs false
set_option linter.unusedVariables false
namespace Go.Proofs.YtnlcmfdmbgnpfaaGreat
open Go.V Classical

structure WZ where
  wb : Nat
  W : BW
  Y : RW5

def wzF (c : Cfg) (Q : WZ) (O P n : Nat) : Nat → Value
  | 0 => .int .u64 c.base
  | 1 => .int .i64 c.limit
  | 2 => .int .i64 c.order
  | 3 => .pointer (some ⟨Q.W.s, 0, none⟩)
  | 4 => .pointer (some ⟨Q.W.mb, 0, none⟩)
  | 5 => .pointer (some ⟨Q.W.b, 0, none⟩)
  | 6 => .int .i64 (O : Int)
  | 7 => .int .i64 (P : Int)
  | 8 => .slice Q.Y.fp (O + 1) Q.Y.fc
  | _ => .slice Q.Y.vp n Q.Y.vc

abbrev wzR (c : Cfg) (Q : WZ) (x : BU) (fl : Nat → List Nat) (V : List PBk) : Res := andR (andR (blkR Q.wb 10 (wzF c Q x.m.o x.m.n V.length)) (rfR Q.Y x.m.o fl V)) (buR c Q.W x)

section
variable {h h' : Heap} {c : Cfg} {Q : WZ} {x : BU} {fl : Nat → List Nat} {V : List PBk}

theorem wz_cell (H : (wzR c Q x fl V).P h) {i : Nat} (hi : i < 10) : cellAt h ((⟨Q.wb, 0, none⟩ : Addr).add i) = some (wzF c Q x.m.o x.m.n V.length i) := by rw [add_mk, Nat.zero_add]; exact H.1.1.cell hi
theorem wz_c0 (H : (wzR c Q x fl V).P h) : cellAt h (⟨Q.wb, 0, none⟩ : Addr) = some (.int .u64 c.base) := H.1.1.cell (i := 0) (by omega)
theorem wz_rf (H : (wzR c Q x fl V).P h) : (rfR Q.Y x.m.o fl V).P h := H.1.2.1
theorem wz_bu (H : (wzR c Q x fl V).P h) : (buR c Q.W x).P h := H.2.1

theorem wz_split {h0 : Heap} {E : Res} {rs : List Res} (I : Go.V.Own h0 h E (wzR c Q x fl V :: rs)) : Go.V.Own h0 h E (blkR Q.wb 10 (wzF c Q x.m.o x.m.n V.length) :: rfR Q.Y x.m.o fl V :: buR c Q.W x :: rs) := I.split.split
theorem wz_join {h0 : Heap} {E : Res} {rs : List Res} (I : Go.V.Own h0 h E (blkR Q.wb 10 (wzF c Q x.m.o x.m.n V.length) :: rfR Q.Y x.m.o fl V :: buR c Q.W x :: rs)) : Go.V.Own h0 h E (wzR c Q x fl V :: rs) := I.join.join

theorem WS.flOk {S : Nat → Prop} {L : List PBk} (W : WS S c x fl L) : FlOk x.m.o fl := by
  have n1 := W.ok.m.n1
  have al : ∀ k, k ≤ x.m.o → ∀ p ∈ fl k, p < x.m.n := fun k hk p hp => by
    have := W.rep.al hk hp
    have h0 := Nat.two_pow_pos k
    omega
  have nd : ∀ k, k ≤ x.m.o → (fl k).Nodup := fun k hk => by
    have := (W.rep.ls k hk).nd
    exact List.Pairwise.of_map (adr c) (fun a b hne e => hne (by rw [e])) this
  refine ⟨fun k hk => ?_, nd, fun k hk p hp => by have := al k hk p hp; omega⟩
  have := List.Nodup.length_le_of_subset (nd k hk) (l₂ := List.range x.m.n) fun p hp => List.mem_range.2 (al k hk p hp)
  simp at this
  omega
end
end Go.Proofs.YtnlcmfdmbgnpfaaGreat
