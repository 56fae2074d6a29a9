/- Chapter 4: the states of the closed sentence PageKnown. No condition. -/
import Derived.Test.YtnplkinakaepdaaR3
set_option linter.unusedSimpArgs false
set_option linter.unusedVariables false
namespace Go.Proofs.Ytnplkinakaepdaa
open Go.V Classical

def k1 : MS := mGrow (mNew 2)
def k2 : MS := { k1 with pg := runP k1.pg 2 1 0 }
def k3 : MS := setPg k2 1 (slabP 7)
def k4 : MS := setPg k3 1 (pown (k3.pg 1) 1 true)
def k5 : MS := setPg k4 1 (chainP (k4.pg 1) 3 (-1))
def k6 : MS := setPg k5 1 (firstP (k5.pg 1) 0)
def k7 : MS := { k6 with bt := flipB k6.bt 0 1 }
def k8 : MS := { k7 with bt := flipB k7.bt 1 0 }
def k9 : MS := mShrink k8 1
def kA : MS := mGrow k9

theorem k1_ok : k1.Ok := mGrow_ok (mNew_ok 2)
theorem r12 : runOk k1 2 1 0 := by unfold runOk; decide +kernel
theorem k2_ok : k2.Ok := runP_ok k1_ok r12
theorem e12 : uRun k1 2 1 0 = (k2, 0) := if_pos r12
theorem e11 : uRun k1 1 1 0 = (k1, 1) := if_neg (by unfold runOk; decide +kernel)
theorem e13 : uRun k2 2 1 4 = (k2, 1) := if_neg (by unfold runOk; decide +kernel)
theorem e14 : uRun k2 0 3 2 = (k2, 1) := if_neg (by unfold runOk; decide +kernel)
theorem h3 : uHead k2 3 = 2 := by unfold uHead; rw [if_pos (by decide +kernel)]; decide +kernel
theorem h1 : uHead k2 1 = 0 := by unfold uHead; rw [if_pos (by decide +kernel)]; decide +kernel
theorem h9 : uHead k2 9 = -1 := if_neg (by decide +kernel)
theorem k3_ok : k3.Ok := setPg_ok k2_ok (slabP_t (by omega))
theorem e23 : uSlab k2 1 7 = (k3, 0) := if_pos (by unfold slabOk; decide +kernel)
theorem e33 : uOwn k3 1 2 true = (k3, 1) := if_neg (by unfold ownOk; decide +kernel)
theorem e34 : uOwn k3 1 1 true = (k4, 0) := if_pos (by unfold ownOk; decide +kernel)
theorem k4_ok : k4.Ok := setPg_ok k3_ok (pown_t (by decide) (k3_ok.pg 1 (by decide +kernel)))
theorem e44 : uOwn k4 1 1 true = (k4, 1) := if_neg (by unfold ownOk; decide +kernel)
theorem e45 : uChain k4 1 4 (-1) = (k4, 1) := if_neg (by unfold chainOk; decide +kernel)
theorem e46 : uChain k4 1 3 (-1) = (k5, 0) := if_pos (by unfold chainOk; decide +kernel)
theorem k5_ok : k5.Ok := setPg_ok k4_ok (chainP_t (by unfold bd63; omega) (by unfold bd63; omega) (k4_ok.pg 1 (by decide +kernel)))
theorem e56 : uFirst k5 1 0 = (k6, 0) := if_pos (by unfold firstOk; decide +kernel)
theorem k6_ok : k6.Ok := setPg_ok k5_ok (firstP_t (by unfold bd63; omega) (k5_ok.pg 1 (by decide +kernel)))
theorem e66 : uFirst k6 1 2 = (k6, 1) := if_neg (by unfold firstOk; decide +kernel)
theorem e67 : uFirst k6 0 (-1) = (k6, 1) := if_neg (by unfold firstOk; decide +kernel)
theorem p63 : pairOk k6 0 3 := by unfold pairOk; decide +kernel
theorem p72 : ¬ pairOk k7 2 0 := by unfold pairOk; decide +kernel
theorem p71 : pairOk k7 1 0 := by unfold pairOk; decide +kernel
theorem k7_ok : k7.Ok := flip_ok k6_ok p63
theorem k8_ok : k8.Ok := flip_ok k7_ok p71
theorem k9_ok : k9.Ok := mShrink_ok k8_ok (by decide +kernel)
theorem e89 : uShrink k8 1 = (k9, 0) := if_pos (by unfold shrinkOk; decide +kernel)
theorem kA_ok : kA.Ok := mGrow_ok k9_ok

/-- The page that is wanted. -/
def wantP : Nat → Int
  | 0 => 4
  | 2 => 7
  | 3 => 1
  | 4 => 3
  | 5 => -1
  | _ => 0

theorem q2 : (!(EQ_api_Page (k2.pg 2 0) (k2.pg 2 1) (k2.pg 2 2) (k2.pg 2 3) (k2.pg 2 4) (k2.pg 2 5) (k2.pg 2 6) (k2.pg 2 7) (k2.pg 2 8) (k2.pg 2 9) (k2.pg 2 10) 0 1 0 0 (-1) (-1) (-1) 0 0 0 0)) = false := by decide +kernel
theorem q3 : (!(EQ_api_Page (k2.pg 3 0) (k2.pg 3 1) (k2.pg 3 2) (k2.pg 3 3) (k2.pg 3 4) (k2.pg 3 5) (k2.pg 3 6) (k2.pg 3 7) (k2.pg 3 8) (k2.pg 3 9) (k2.pg 3 10) 1 1 0 0 (-1) (-1) (-1) 0 0 0 0)) = false := by decide +kernel
theorem q6 : (!(EQ_api_Page (k6.pg 1 0) (k6.pg 1 1) (k6.pg 1 2) (k6.pg 1 3) (k6.pg 1 4) (k6.pg 1 5) (k6.pg 1 6) (k6.pg 1 7) (k6.pg 1 8) (k6.pg 1 9) (k6.pg 1 10) (wantP 0) (wantP 1) (wantP 2) (wantP 3) (wantP 4) (wantP 5) (wantP 6) 2 (wantP 8) (wantP 9) (wantP 10))) = false := by decide +kernel
theorem w80 : wd (k8.bt 0) 0 = 2 := by decide +kernel
theorem w81 : wd (k8.bt 1) 0 = 1 := by decide +kernel
theorem wA0 : wd (kA.bt 0) 0 = 0 := by decide +kernel
theorem wA1 : wd (kA.bt 1) 0 = 0 := by decide +kernel
theorem n80 : nw (k8.n / 2 ^ (0 + 1)) = 1 := by decide +kernel
theorem n81 : nw (k8.n / 2 ^ (1 + 1)) = 1 := by decide +kernel
theorem nA0 : nw (kA.n / 2 ^ (0 + 1)) = 1 := by decide +kernel
theorem nA1 : nw (kA.n / 2 ^ (1 + 1)) = 1 := by decide +kernel

theorem s01 : mGrow (mNew 2) = k1 := rfl
theorem s67 : ({ k6 with bt := flipB k6.bt 0 (3 / 2 ^ (0 + 1)) } : MS) = k7 := rfl
theorem s78 : ({ k7 with bt := flipB k7.bt 1 (0 / 2 ^ (1 + 1)) } : MS) = k8 := rfl
theorem s9A : mGrow k9 = kA := rfl
theorem k2n : k2.n = 4 := by decide +kernel
theorem k7o : k7.o = 2 := by decide +kernel
theorem k8n : k8.n = 4 := by decide +kernel
theorem k8o : k8.o = 2 := by decide +kernel
theorem kAn : kA.n = 4 := by decide +kernel
theorem kAo : kA.o = 2 := by decide +kernel
theorem kin : 0 ≤ (2 : Int) ∧ (2 : Int) < k2.n := by decide +kernel
theorem kin3 : 0 ≤ (3 : Int) ∧ (3 : Int) < k2.n := by decide +kernel
theorem k6in : 0 ≤ (1 : Int) ∧ (1 : Int) < k6.n := by decide +kernel
theorem b63 : k6.bt 0 (3 / 2 ^ (0 + 1)) = false := by decide +kernel
theorem b71 : k7.bt 1 (0 / 2 ^ (1 + 1)) = false := by decide +kernel
theorem b82 : k8.bt 0 (2 / 2 ^ (0 + 1)) = true := by decide +kernel
theorem b81 : k8.bt 0 (1 / 2 ^ (0 + 1)) = false := by decide +kernel
theorem p82 : pairOk k8 0 2 := by unfold pairOk; decide +kernel
theorem p81 : pairOk k8 0 1 := by unfold pairOk; decide +kernel
theorem k8al : ¬ 3 % 2 ^ (2 : Int).toNat = 0 := by decide

theorem wantL : pgL wantP = [.int .i64 4, .int .i64 0, .int .i64 7, .int .i64 1, .int .i64 3, .int .i64 (-1), .int .i64 0, .int .u64 0, .int .u64 0, .int .u64 0, .int .u64 0] := rfl
theorem wantNew (h : Heap) : WrN (h.push zpO) ⟨h.size, 0, none⟩ 11 ∧ New h (setCs (h.push zpO) ⟨h.size, 0, none⟩ 0 [.int .i64 4, .int .i64 0, .int .i64 7, .int .i64 1, .int .i64 3, .int .i64 (-1), .int .i64 0, .int .u64 0, .int .u64 0, .int .u64 0, .int .u64 0]) (pgR h.size wantP) := by
  have := pg_lay h wantP
  rw [wantL] at this
  exact this

end Go.Proofs.Ytnplkinakaepdaa
