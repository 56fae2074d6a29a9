/- The law SlabPlays answers true. No condition. -/
import Derived.Test.YteemmpkhdllapaaGreatDoorRows
import Derived.Test.YteemmpkhdllapaaGreatDoorY2
import Derived.Test.YteemmpkhdllapaaGreatDoorTie
import Derived.Test.YteemmpkhdllapaaGreatDoorCards
import Derived.SevenTiedAt
import Derived.LaidMore
import Derived.Lib.LaidTab
import Derived.ProofKit
import Derived.Test.YteemmpkhdllapaaGreatDoorY18
import Derived.Lib.SmallJoins
import Derived.OpenShut
namespace Go.Proofs.YteemmpkhdllapaaGreatDoor.slabPlays
open Go.ChangeShapes Go.WideShapes Go.ChangeAt Go.RowKit Go.Joins Go.V
set_option linter.unusedVariables false

theorem own : ownKnob Tryz.prog.godebug = none := by kernel_rfl
theorem laid : laidOutB Tryz.prog = true := by kernel_rfl

theorem cells3 : Tryz.prog.cellsOf 3 = 1 := by kernel_rfl
theorem cells4 : Tryz.prog.cellsOf 4 = 1 := by kernel_rfl
theorem cells22 : Tryz.prog.cellsOf 22 = 1 := by kernel_rfl
theorem cells24 : Tryz.prog.cellsOf 24 = 3 := by kernel_rfl
theorem cells31 : Tryz.prog.cellsOf 31 = 5 := by kernel_rfl
theorem cells90 : Tryz.prog.cellsOf 90 = 8 := by kernel_rfl

abbrev lds : List (String × DataW Unit) := [("croft/slab.widths", Rows.laid_croft_slab_widths)]
theorem gW : Tryz.prog.globalNamed "croft/slab.widths" = some 0 := by kernel_rfl
theorem tW : (Tryz.prog.globals[0]?).map (·.type) = some 90 := by kernel_rfl

theorem door_met (os : Os) (args : Array Value) : laidMetH Tryz.prog lds ((World.doorLaid Tryz.prog 400 os).forCall (fun _ _ => 0) ⟨#[], args, []⟩).memory :=
  laidMetH_of_parts3 (fuel := 8) (laidMet_of_run' 8 (by kernel_rfl) (by kernel_rfl)) (by kernel_rfl) (by kernel_rfl)

theorem tab_of {W : World} (h : laidMetH Tryz.prog lds W) : Tab W.heap := by
  rw [MakeChecks.laidMetH_plain _ _ _ (by kernel_rfl)] at h
  have hT := Lib.tabIs_of_head (zs := [16, 32, 64, 128, 256, 512, 1024, 2048]) (k := .u64) gW tW Tryz.underlying90 Tryz.underlying22 cells22 cells90 h
  intro i hi
  rcases k8 hi with rfl | rfl | rfl | rfl | rfl | rfl | rfl | rfl <;> exact hT.cell gW _ (by decide)

set_option maxRecDepth 100000 in
theorem lifted (os : Os) (started : os.Started) (H : Type) (enc : TypeId × Value → H) :
    ReturnsInHanded {} Tryz.checked os 3 .any (fun w args => (Rows.slabPlaysSpec.pre enc Tryz.prog Tryz.f3 [] false w args ∧ laidMetH Tryz.prog lds w) ∧ sizedMet enc Tryz.prog Tryz.f3 (OpenSpec.ofChange Rows.slabPlaysSpec) false w args)
      (Rows.slabPlaysSpec.post enc Tryz.prog Tryz.f3 false true false false) := by
  refine returnsInHanded_of_change_and (C := Tryz.checked) (X := fun w _ => laidMetH Tryz.prog lds w) (fun _ _ _ hh h => h.of_heap hh) own started (by kernel_rfl) Tryz.func3
    (ChangeSpec.witness_shaped (enc := enc) (C := Tryz.checked) (os := os) (X := fun w _ => laidMetH Tryz.prog lds w) false (World.doorLaid Tryz.prog 400 os) #[.agg #[.int .u64 0, .int .i64 0, .int .i64 0], .slice none 0 0] 8 rfl (World.shaped_of_RefB (by kernel_rfl) (by kernel_rfl)) (by kernel_rfl) (by kernel_rfl) (by kernel_rfl) (door_met os _)) ?_
  intro W base args ds gs before hval0 hW _ _ hL _
  have hT := tab_of hL
  have hval : ∀ (j : Nat) t v, Tryz.f3.params[j]? = some t → args[j]? = some v → Value.okWide Tryz.prog W .any base t v := hval0
  have hW' := hW
  obtain ⟨p, q, hA0, hV, rfl, hfz, hnd⟩ := hW
  have hA : DataW.TrodAll enc Tryz.prog W 0 (fun _ => true) true Tryz.f3.params.toList args.toList ds p := hA0
  rw [Tryz.params3] at hA hval
  have hAk := hA
  obtain ⟨v0, vs0, d0, ds0, p0, q0, hargs, rfl, hpq0, h0, r0⟩ := trodAll_cons hA
  obtain ⟨v1, vs1, d1, ds1, p1, q1, rfl, rfl, hpq1, h1, r1⟩ := trodAll_cons r0
  obtain ⟨rfl, rfl, hq0⟩ := trodAll_nil r1
  obtain rfl : args = #[v0, v1] := by cases args; simp_all
  obtain ⟨rfl, rfl⟩ := trodVars_none hV
  clear hA0 hval0
  simp only [List.append_nil] at hW'
  clear hfz hnd hV
  obtain ⟨c0_0, c0_1, c0_2, y0_0, y0_1, y0_2, m0, rfl, rfl, rfl, hy0_0, hy0_1, hy0_2⟩ := open_agg3 Tryz.underlying24 (by kernel_rfl) cells24 (hval 0 24 v0 rfl rfl) h0
  obtain ⟨a0_0, e0_0, rfl, w0_0⟩ := DataW.trod_int Tryz.underlying22 hy0_0
  simp only [List.cons.injEq, and_true] at e0_0
  subst e0_0
  obtain ⟨a0_1, e0_1, rfl, w0_1⟩ := DataW.trod_int Tryz.underlying3 hy0_1
  simp only [List.cons.injEq, and_true] at e0_1
  subst e0_1
  obtain ⟨a0_2, e0_2, rfl, w0_2⟩ := DataW.trod_int Tryz.underlying3 hy0_2
  simp only [List.cons.injEq, and_true] at e0_2
  subst e0_2
  obtain ⟨b1, len1, cap1, rfl⟩ := okWide_slice Tryz.underlying25 (hval 1 25 v1 rfl rfl)
  have s1 := st7Row Tryz.underlying25 Tryz.underlying31 rfl cells31 (fun j hj => by
    have hj' : j = 0 ∨ j = 1 ∨ j = 2 ∨ j = 3 ∨ j = 4 := by omega
    rcases hj' with rfl | rfl | rfl | rfl | rfl
    · exact ⟨_, rfl, rfl, cells3, Tryz.underlying3⟩
    · exact ⟨_, rfl, rfl, cells3, Tryz.underlying3⟩
    · exact ⟨_, rfl, rfl, cells3, Tryz.underlying3⟩
    · exact ⟨_, rfl, rfl, cells4, Tryz.underlying4⟩
    · exact ⟨_, rfl, rfl, cells22, Tryz.underlying22⟩) h1
  refine (calls_of_callV' (SlabPlays_law hT w0_0 w0_1 w0_2 s1)).mono fun e W' ⟨he, hg, hb⟩ => ?_
  subst he
  exact ⟨_, rfl, post_of_same (pa := p) (pv := []) hW' (fun _ _ _ => (trodAll_cons_mk (shut_bool Tryz.underlying4 _) trodAll_mk0)) (fun sp hsp => trodAll_stays laid hb (by kernel_rfl) hAk (fun x hx => hW'.lt x hx) hsp) (fun _ _ => rfl) (List.append_nil _).symm
    (hg.frame _) hg.2.1 (ok_one (by kernel_rfl) rfl (okWide_bool_mk Tryz.underlying4 _))⟩

theorem over : Rows.slabPlaysRow.holds Tryz.pinned (OpenSpec.ofChange Rows.slabPlaysSpec) :=
  OpenClaim.holds_of_wide 3 Tryz.f3 rfl rfl rfl rfl rfl rfl rfl ⟨rfl, rfl, rfl, rfl, rfl⟩ rfl rfl rfl rfl rfl (by kernel_rfl) Tryz.func3 (by kernel_rfl)
    (of_decide_eq_true (by kernel_rfl)) (by unfold Func.isWrapper; first | (rw [if_pos (by decide +kernel)]; kernel_rfl) | (rw [if_neg (by decide +kernel)]; exact ⟨rfl, rfl⟩))
    (fun os started H enc _ => lifted os started H enc)

theorem proved : Rows.SlabPlaysCardSaid :=
  Claim7.holds_tied_plain_at .later [] [.data] true (true, "15470b84bac9e08896c9f3de3f5677ccd2dd8c0ef482bc54a4bb1e2658df1d83") true
    over (fun _ h => by cases h) (by kernel_rfl) (fun _ h => by cases h) slabPlays_row_tie rfl ⟨rfl, rfl⟩ (by kernel_rfl) rfl
    (fun f fn hf hfn => by
      obtain rfl : f = 3 := Option.some.inj ((show Tryz.prog.funcNamed "croft/croftlaw7.SlabPlays" = some 3 by kernel_rfl).symm.trans hf) |>.symm
      obtain rfl : fn = Tryz.f3 := (Option.some.inj (Tryz.func3.symm.trans hfn)).symm
      exact ⟨by kernel_rfl, fun j t ht => by
        rw [Tryz.params3] at ht
        have hm : t ∈ [24, 25] := by simpa using Array.mem_of_getElem? ht
        have hall : ([24, 25].all fun u => !Tryz.prog.wantsStandIn u) = true := by kernel_rfl
        exact (show Tryz.prog.wantsStandIn t = false by simpa using List.all_eq_true.1 hall t hm)⟩)
    (by kernel_rfl)
end Go.Proofs.YteemmpkhdllapaaGreatDoor.slabPlays
