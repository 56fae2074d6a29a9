/- The law SlabKnown answers true. No condition. -/
import Derived.Test.YteemmpkhdllapaaDoorRows
import Derived.Test.YteemmpkhdllapaaDoorZM2
import Derived.Test.YteemmpkhdllapaaDoorTie
import Derived.Test.YteemmpkhdllapaaDoorCards
import Derived.SevenTiedAt
import Derived.LaidMore
import Derived.Lib.LaidTab
import Derived.ProofKit
import Derived.Test.YteemmpkhdllapaaDoorZEN
import Derived.Lib.SmallJoins
import Derived.OpenShut
namespace Go.Proofs.YteemmpkhdllapaaDoor.slabKnown
open Go.ChangeShapes Go.WideShapes Go.ChangeAt Go.RowKit Go.Joins Go.V
set_option linter.unusedVariables false

theorem own : ownKnob Tryd.prog.godebug = none := by kernel_rfl
theorem laid : laidOutB Tryd.prog = true := by kernel_rfl

theorem cells103 : Tryd.prog.cellsOf 103 = 8 := by kernel_rfl
theorem cells24 : Tryd.prog.cellsOf 24 = 1 := by kernel_rfl

abbrev lds : List (String × DataW Unit) := [("croft/slab.widths", Rows.laid_croft_slab_widths)]
theorem gW : Tryd.prog.globalNamed "croft/slab.widths" = some 0 := by kernel_rfl
theorem tW : (Tryd.prog.globals[0]?).map (·.type) = some 103 := by kernel_rfl

theorem door_met (os : Os) (args : Array Value) : laidMetH Tryd.prog lds ((World.doorLaid Tryd.prog 400 os).forCall (fun _ _ => 0) ⟨#[], args, []⟩).memory :=
  laidMetH_of_parts3 (fuel := 8) (laidMet_of_run' 8 (by kernel_rfl) (by kernel_rfl)) (by kernel_rfl) (by kernel_rfl)

theorem tab_of {W : World} (h : laidMetH Tryd.prog lds W) : Tab W.heap := by
  rw [MakeChecks.laidMetH_plain _ _ _ (by kernel_rfl)] at h
  have hT := Lib.tabIs_of_head (zs := [16, 32, 64, 128, 256, 512, 1024, 2048]) (k := .u64) gW tW Tryd.underlying103 Tryd.underlying24 cells24 cells103 h
  intro i hi
  rcases k8 hi with rfl | rfl | rfl | rfl | rfl | rfl | rfl | rfl <;> exact hT.cell gW _ (by decide)

set_option maxRecDepth 100000 in
theorem lifted (os : Os) (started : os.Started) (H : Type) (enc : TypeId × Value → H) :
    ReturnsInHanded {} Tryd.checked os 3 .any (fun w args => (Rows.slabKnownSpec.pre enc Tryd.prog Tryd.f3 [] false w args ∧ laidMetH Tryd.prog lds w) ∧ sizedMet enc Tryd.prog Tryd.f3 (OpenSpec.ofChange Rows.slabKnownSpec) false w args)
      (Rows.slabKnownSpec.post enc Tryd.prog Tryd.f3 false true false false) := by
  refine returnsInHanded_of_change_and (C := Tryd.checked) (X := fun w _ => laidMetH Tryd.prog lds w) (fun _ _ _ hh h => h.of_heap hh) own started (by kernel_rfl) Tryd.func3
    (ChangeSpec.witness_shaped (enc := enc) (C := Tryd.checked) (os := os) (X := fun w _ => laidMetH Tryd.prog lds w) false (World.doorLaid Tryd.prog 400 os) #[] 8 rfl (World.shaped_of_RefB (by kernel_rfl) (by kernel_rfl)) (by kernel_rfl) (by kernel_rfl) (by kernel_rfl) (door_met os _)) ?_
  intro W base args ds gs before hval0 hW _ _ hL _
  have hT := tab_of hL
  have hval : ∀ (j : Nat) t v, Tryd.f3.params[j]? = some t → args[j]? = some v → Value.okWide Tryd.prog W .any base t v := hval0
  have hW' := hW
  obtain ⟨p, q, hA0, hV, rfl, hfz, hnd⟩ := hW
  have hA : DataW.TrodAll enc Tryd.prog W 0 (fun _ => true) true Tryd.f3.params.toList args.toList ds p := hA0
  rw [Tryd.params3] at hA hval
  have hAk := hA
  obtain ⟨hargs, rfl, hq0⟩ := trodAll_none hA
  obtain rfl : args = #[] := by first | exact hargs | (cases args; simp_all)
  obtain ⟨rfl, rfl⟩ := trodVars_none hV
  clear hA0 hval0
  simp only [List.append_nil] at hW'
  clear hfz hnd hV
  refine (calls_of_callV' (SlabKnown_law hT)).mono fun e W' ⟨he, hg, hb⟩ => ?_
  subst he
  exact ⟨_, rfl, post_of_same (pa := p) (pv := []) hW' (fun _ _ _ => (trodAll_cons_mk (shut_bool Tryd.underlying4 _) trodAll_mk0)) (fun sp hsp => trodAll_stays laid hb (by kernel_rfl) hAk (fun x hx => hW'.lt x hx) hsp) (fun _ _ => rfl) (List.append_nil _).symm
    (hg.frame _) hg.2.1 (ok_one (by kernel_rfl) rfl (okWide_bool_mk Tryd.underlying4 _))⟩

theorem over : Rows.slabKnownRow.holds Tryd.pinned (OpenSpec.ofChange Rows.slabKnownSpec) :=
  OpenClaim.holds_of_wide 3 Tryd.f3 rfl rfl rfl rfl rfl rfl rfl ⟨rfl, rfl, rfl, rfl, rfl⟩ rfl rfl rfl rfl rfl (by kernel_rfl) Tryd.func3 (by kernel_rfl)
    (of_decide_eq_true (by kernel_rfl)) (by unfold Func.isWrapper; first | (rw [if_pos (by decide +kernel)]; kernel_rfl) | (rw [if_neg (by decide +kernel)]; exact ⟨rfl, rfl⟩))
    (fun os started H enc _ => lifted os started H enc)

theorem proved : Rows.SlabKnownCardSaid :=
  Claim7.holds_tied_plain_at .later [] [.data] true (true, "c73fb5888fe7f9fc293df3840576d3c52c916f616981770fbaddbffd7ac5734d") true
    over (fun _ h => by cases h) (by kernel_rfl) (fun _ h => by cases h) slabKnown_row_tie rfl ⟨rfl, rfl⟩ (by kernel_rfl) rfl
    (fun f fn hf hfn => by
      obtain rfl : f = 3 := Option.some.inj ((show Tryd.prog.funcNamed "croft/croftlaw7.SlabKnown" = some 3 by kernel_rfl).symm.trans hf) |>.symm
      obtain rfl : fn = Tryd.f3 := (Option.some.inj (Tryd.func3.symm.trans hfn)).symm
      exact ⟨by kernel_rfl, fun j t ht => by rw [Tryd.params3] at ht; simp at ht⟩)
    (by kernel_rfl)
end Go.Proofs.YteemmpkhdllapaaDoor.slabKnown
