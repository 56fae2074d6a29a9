/- Chapter 4: each call's answer and what it leaves, on both maps alike. No condition. -/
import Derived.Test.YtnplkinakaepdaaQ9
set_option linter.unusedSimpArgs false
set_option linter.unusedVariables false
namespace Go.Proofs.Ytnplkinakaepdaa
open Go.V Classical

noncomputable def uShrink (s : MS) (k : Int) : MS × Int := if shrinkOk s k then (mShrink s k.toNat, 0) else (s, 1)
noncomputable def uRun (s : MS) (i r kind : Int) : MS × Int := if runOk s i r kind then ({ s with pg := runP s.pg i.toNat r.toNat kind }, 0) else (s, 1)
noncomputable def uSlab (s : MS) (i c : Int) : MS × Int := if slabOk s i c then (setPg s i (slabP c), 0) else (s, 1)
noncomputable def uOwn (s : MS) (i c : Int) (live : Bool) : MS × Int := if ownOk s i c live then (setPg s i (pown (s.pg i.toNat) c.toNat live), 0) else (s, 1)
noncomputable def uChain (s : MS) (i p q : Int) : MS × Int := if chainOk s i p q then (setPg s i (chainP (s.pg i.toNat) p q), 0) else (s, 1)
noncomputable def uFirst (s : MS) (i c : Int) : MS × Int := if firstOk s i c then (setPg s i (firstP (s.pg i.toNat) c), 0) else (s, 1)
noncomputable def uHead (s : MS) (i : Int) : Int := if 0 ≤ i ∧ i < s.n then ((i.toNat / 2 ^ (s.pg i.toNat 1).toNat * 2 ^ (s.pg i.toNat 1).toNat : Nat) : Int) else -1
noncomputable def uPair (s : MS) (r i : Int) : Int := if pairOk s r i then ((i.toNat / 2 ^ (r.toNat + 1) : Nat) : Int) else -1

section
variable {w₀ : World} {h : Heap} {K : Value → Heap → Prop} {s : MS} {w : RW} {mb : Nat} {m : MW}

theorem pm_Run_u {i r kind : Int} (hs : s.Ok) (hi : bd63 i) (hr0 : bd63 r) (H : (mapR mb s m).P h) (hK : ∀ h', Stp h h' (mapR mb s m) (mapR mb (uRun s i r kind).1 m) → K (.int .i64 (uRun s i r kind).2) h') :
    CallV Try.prog w₀ F.pagemap_Map_Run [.pointer (some ⟨mb, 0, none⟩), .int .i64 i, .int .i64 r, .int .i64 kind] h K := by
  refine pm_Run_ok hs.o8 hs.n1 hi H (fun a r' hm hr hle ha hmn hk h' S => ?_) fun hn h' u => ?_
  · subst hm hr
    have OK : runOk s a r' kind := ⟨hk, by omega, by omega, by omega, ha, hmn⟩
    have hK := hK h'
    rw [show uRun s a r' kind = _ from if_pos OK] at hK
    exact hK S
  · have hK := hK h'
    rw [show uRun s i r kind = _ from if_neg hn] at hK
    exact hK (Stp.quiet H u)

theorem r4_Run_u {i r kind : Int} (hs : s.Ok) (hi : bd63 i) (hr0 : bd63 r) (H : (refR s w).P h) (hK : ∀ h', Stp h h' (refR s w) (refR (uRun s i r kind).1 w) → K (.int .i64 (uRun s i r kind).2) h') :
    CallV Try.prog w₀ F.croftref4_Run [refV s w, .int .i64 i, .int .i64 r, .int .i64 kind] h K := by
  refine r4_Run_ok hs hi hr0 H (fun a r' hm hr hle ha hmn hk h' S => ?_) fun hn h' u => ?_
  · subst hm hr
    have OK : runOk s a r' kind := ⟨hk, by omega, by omega, by omega, ha, hmn⟩
    have hK := hK h'
    rw [show uRun s a r' kind = _ from if_pos OK] at hK
    exact hK S
  · have hK := hK h'
    rw [show uRun s i r kind = _ from if_neg hn] at hK
    exact hK (Stp.quiet H u)

theorem pm_Slab_u {i c : Int} (hs : s.Ok)  (H : (mapR mb s m).P h) (hK : ∀ h', Stp h h' (mapR mb s m) (mapR mb (uSlab s i c).1 m) → K (.int .i64 (uSlab s i c).2) h') :
    CallV Try.prog w₀ F.pagemap_Map_Slab [.pointer (some ⟨mb, 0, none⟩), .int .i64 i, .int .i64 c] h K := by
  refine pm_Slab_ok H (fun a hm hmn h0 h7 h' S => ?_) fun hn h' u => ?_
  · subst hm
    have OK : slabOk s a c := ⟨by omega, by omega, h0, h7⟩
    have hK := hK h'
    rw [show uSlab s a c = _ from if_pos OK] at hK
    exact hK S
  · have hK := hK h'
    rw [show uSlab s i c = _ from if_neg hn] at hK
    exact hK (Stp.quiet H u)

theorem r4_Slab_u {i c : Int} (hs : s.Ok)  (H : (refR s w).P h) (hK : ∀ h', Stp h h' (refR s w) (refR (uSlab s i c).1 w) → K (.int .i64 (uSlab s i c).2) h') :
    CallV Try.prog w₀ F.croftref4_Slab [refV s w, .int .i64 i, .int .i64 c] h K := by
  refine r4_Slab_ok hs H (fun a hm hmn h0 h7 h' S => ?_) fun hn h' u => ?_
  · subst hm
    have OK : slabOk s a c := ⟨by omega, by omega, h0, h7⟩
    have hK := hK h'
    rw [show uSlab s a c = _ from if_pos OK] at hK
    exact hK S
  · have hK := hK h'
    rw [show uSlab s i c = _ from if_neg hn] at hK
    exact hK (Stp.quiet H u)

theorem pm_Own_u {i c : Int} {live : Bool} (hs : s.Ok)  (H : (mapR mb s m).P h) (hK : ∀ h', Stp h h' (mapR mb s m) (mapR mb (uOwn s i c live).1 m) → K (.int .i64 (uOwn s i c live).2) h') :
    CallV Try.prog w₀ F.pagemap_Map_Own [.pointer (some ⟨mb, 0, none⟩), .int .i64 i, .int .i64 c, .bool live] h K := by
  refine pm_Own_ok hs.pg H (fun a k hm hmn h4 hc hkc hb h' S => ?_) fun hn h' u => ?_
  · subst hm hc
    have OK : ownOk s a k live := ⟨by omega, by omega, h4, by omega, Int.ofNat_lt.2 hkc, hb⟩
    have hK := hK h'
    rw [show uOwn s a k live = _ from if_pos OK] at hK
    exact hK S
  · have hK := hK h'
    rw [show uOwn s i c live = _ from if_neg hn] at hK
    exact hK (Stp.quiet H u)

theorem r4_Own_u {i c : Int} {live : Bool} (hs : s.Ok)  (H : (refR s w).P h) (hK : ∀ h', Stp h h' (refR s w) (refR (uOwn s i c live).1 w) → K (.int .i64 (uOwn s i c live).2) h') :
    CallV Try.prog w₀ F.croftref4_Own [refV s w, .int .i64 i, .int .i64 c, .bool live] h K := by
  refine r4_Own_ok hs H (fun a k hm hmn h4 hc hkc hb h' S => ?_) fun hn h' u => ?_
  · subst hm hc
    have OK : ownOk s a k live := ⟨by omega, by omega, h4, by omega, Int.ofNat_lt.2 hkc, hb⟩
    have hK := hK h'
    rw [show uOwn s a k live = _ from if_pos OK] at hK
    exact hK S
  · have hK := hK h'
    rw [show uOwn s i c live = _ from if_neg hn] at hK
    exact hK (Stp.quiet H u)

theorem pm_Chain_u {i p q : Int} (hs : s.Ok)  (H : (mapR mb s m).P h) (hK : ∀ h', Stp h h' (mapR mb s m) (mapR mb (uChain s i p q).1 m) → K (.int .i64 (uChain s i p q).2) h') :
    CallV Try.prog w₀ F.pagemap_Map_Chain [.pointer (some ⟨mb, 0, none⟩), .int .i64 i, .int .i64 p, .int .i64 q] h K := by
  refine pm_Chain_ok hs.n1 H (fun a hm hmn h4 a1 a2 a3 a4 h' S => ?_) fun hn h' u => ?_
  · subst hm
    have OK : chainOk s a p q := ⟨by omega, by omega, h4, a1, a2, a3, a4⟩
    have hK := hK h'
    rw [show uChain s a p q = _ from if_pos OK] at hK
    exact hK S
  · have hK := hK h'
    rw [show uChain s i p q = _ from if_neg hn] at hK
    exact hK (Stp.quiet H u)

theorem r4_Chain_u {i p q : Int} (hs : s.Ok)  (H : (refR s w).P h) (hK : ∀ h', Stp h h' (refR s w) (refR (uChain s i p q).1 w) → K (.int .i64 (uChain s i p q).2) h') :
    CallV Try.prog w₀ F.croftref4_Chain [refV s w, .int .i64 i, .int .i64 p, .int .i64 q] h K := by
  refine r4_Chain_ok hs H (fun a hm hmn h4 a1 a2 a3 a4 h' S => ?_) fun hn h' u => ?_
  · subst hm
    have OK : chainOk s a p q := ⟨by omega, by omega, h4, a1, a2, a3, a4⟩
    have hK := hK h'
    rw [show uChain s a p q = _ from if_pos OK] at hK
    exact hK S
  · have hK := hK h'
    rw [show uChain s i p q = _ from if_neg hn] at hK
    exact hK (Stp.quiet H u)

theorem pm_First_u {i c : Int} (hs : s.Ok)  (H : (mapR mb s m).P h) (hK : ∀ h', Stp h h' (mapR mb s m) (mapR mb (uFirst s i c).1 m) → K (.int .i64 (uFirst s i c).2) h') :
    CallV Try.prog w₀ F.pagemap_Map_First [.pointer (some ⟨mb, 0, none⟩), .int .i64 i, .int .i64 c] h K := by
  refine pm_First_ok hs.pg H (fun a hm hmn h4 a1 a2 h' S => ?_) fun hn h' u => ?_
  · subst hm
    have OK : firstOk s a c := ⟨by omega, by omega, h4, a1, a2⟩
    have hK := hK h'
    rw [show uFirst s a c = _ from if_pos OK] at hK
    exact hK S
  · have hK := hK h'
    rw [show uFirst s i c = _ from if_neg hn] at hK
    exact hK (Stp.quiet H u)

theorem r4_First_u {i c : Int} (hs : s.Ok)  (H : (refR s w).P h) (hK : ∀ h', Stp h h' (refR s w) (refR (uFirst s i c).1 w) → K (.int .i64 (uFirst s i c).2) h') :
    CallV Try.prog w₀ F.croftref4_First [refV s w, .int .i64 i, .int .i64 c] h K := by
  refine r4_First_ok hs H (fun a hm hmn h4 a1 a2 h' S => ?_) fun hn h' u => ?_
  · subst hm
    have OK : firstOk s a c := ⟨by omega, by omega, h4, a1, a2⟩
    have hK := hK h'
    rw [show uFirst s a c = _ from if_pos OK] at hK
    exact hK S
  · have hK := hK h'
    rw [show uFirst s i c = _ from if_neg hn] at hK
    exact hK (Stp.quiet H u)

theorem pm_Shrink_u {k : Int} (hs : s.Ok) (hk : bd63 k) (H : (mapR mb s m).P h) (hK : ∀ (h' : Heap) (m' : MW), Stp h h' (mapR mb s m) (mapR mb (uShrink s k).1 m') → K (.int .i64 (uShrink s k).2) h') :
    CallV Try.prog w₀ F.pagemap_Map_Shrink [.pointer (some ⟨mb, 0, none⟩), .int .i64 k] h K := by
  refine pm_Shrink_ok hs hk H (fun x hx hle h' m' S => ?_) fun hn => ?_
  · subst hx
    have OK : shrinkOk s x := ⟨by omega, by omega⟩
    have hK := hK h' m'
    rw [show uShrink s x = _ from if_pos OK] at hK
    exact hK S
  · have hK := hK h m
    rw [show uShrink s k = _ from if_neg hn] at hK
    exact hK (Stp.refl H)

theorem r4_Shrink_u {k : Int} (hs : s.Ok) (hk : bd63 k) (H : (refR s w).P h) (hK : ∀ (h' : Heap) (w' : RW), Stp h h' (refR s w) (refR (uShrink s k).1 w') → K (.tuple #[refV (uShrink s k).1 w', .int .i64 (uShrink s k).2]) h') :
    CallV Try.prog w₀ F.croftref4_Shrink [refV s w, .int .i64 k] h K := by
  refine r4_Shrink_ok hs hk H (fun x hx hle h' w' S => ?_) fun hn h' u => ?_
  · subst hx
    have OK : shrinkOk s x := ⟨by omega, by omega⟩
    have hK := hK h' w'
    rw [show uShrink s x = _ from if_pos OK] at hK
    exact hK S
  · have hK := hK h' w
    rw [show uShrink s k = _ from if_neg hn] at hK
    exact hK (Stp.quiet H u)

theorem pm_Head_u {i : Int} (hs : s.Ok) (H : (mapR mb s m).P h) (hK : ∀ h', Upd NoB h h' → K (.int .i64 (uHead s i)) h') : CallV Try.prog w₀ F.pagemap_Map_Head [.pointer (some ⟨mb, 0, none⟩), .int .i64 i] h K := by
  refine pm_Head_ok hs.n1 hs.pg H (fun a hm hmn h' u => ?_) fun hn h' u => ?_
  · subst hm
    have hK := hK h' u
    rw [show uHead s a = _ from if_pos ⟨by omega, by omega⟩] at hK
    exact hK
  · have hK := hK h' u
    rw [show uHead s i = _ from if_neg hn] at hK
    exact hK

theorem r4_Head_u {i : Int} (hs : s.Ok) (H : (refR s w).P h) (hK : ∀ h', Upd NoB h h' → K (.int .i64 (uHead s i)) h') : CallV Try.prog w₀ F.croftref4_Head [refV s w, .int .i64 i] h K := by
  refine r4_Head_ok hs H (fun a hm hmn h' u => ?_) fun hn h' u => ?_
  · subst hm
    have hK := hK h' u
    rw [show uHead s a = _ from if_pos ⟨by omega, by omega⟩] at hK
    exact hK
  · have hK := hK h' u
    rw [show uHead s i = _ from if_neg hn] at hK
    exact hK

theorem r4_Pair_u {r i : Int} (hs : s.Ok) (hi : bd63 i) (hK : ∀ h', Upd NoB h h' → K (.int .i64 (uPair s r i)) h') : CallV Try.prog w₀ F.croftref4_Pair [refV s w, .int .i64 r, .int .i64 i] h K := by
  refine r4_Pair_ok hs hi (fun k a hk hko hm hmn h' u => ?_) fun hn h' u => ?_
  · subst hk hm
    have hK := hK h' u
    rw [show uPair s k a = _ from if_pos ⟨by omega, by omega, by omega, by omega⟩] at hK
    exact hK
  · have hK := hK h' u
    rw [show uPair s r i = _ from if_neg hn] at hK
    exact hK

/-- What a call of a script leaves. -/
noncomputable def pState (s : MS) (o : PO) : MS :=
  if o.kind = 1 then mGrow s
  else if o.kind = 2 then (uShrink s o.x).1
  else if o.kind = 3 then (uRun s o.page o.x o.y).1
  else if o.kind = 4 then (uSlab s o.page o.x).1
  else if o.kind = 5 then (uOwn s o.page o.x o.live).1
  else if o.kind = 6 then (uChain s o.page o.x o.y).1
  else if o.kind = 7 then (uFirst s o.page o.x).1
  else if o.kind = 8 then if pairOk s o.x o.page then { s with bt := flipB s.bt o.x.toNat (o.page.toNat / 2 ^ (o.x.toNat + 1)) } else s
  else s

theorem pState_eq (s : MS) (o : PO) : pState s o = (mCall s o).1 ∨ pState s o = s := by
  unfold pState mCall uShrink uRun uSlab uOwn uChain uFirst
  by_cases e8 : o.kind = 8 ∨ (1 ≤ o.kind ∧ o.kind ≤ 7)
  · left
    repeat' split
    all_goals first | rfl | omega
  · right
    repeat' split
    all_goals first | rfl | omega

theorem pState_ok {s : MS} {o : PO} (hs : s.Ok) (ho : o.Ok) : (pState s o).Ok := by
  rcases pState_eq s o with e | e <;> rw [e]
  · exact mCall_ok hs ho
  · exact hs

end
end Go.Proofs.Ytnplkinakaepdaa
