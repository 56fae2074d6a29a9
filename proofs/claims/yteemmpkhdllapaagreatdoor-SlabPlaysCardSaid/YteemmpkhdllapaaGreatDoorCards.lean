/-
  DERIVED. GIVEN WITH THE SEED: THE CARDS: each row of YteemmpkhdllapaaGreatDoorRows.lean that lists a variable, with what it lists TIED to the program's text (the seventh form; the later family's looks); each row that meets fmt, with fmt's text TOLD by the authors' own Lean function (tested against real Go, not proved from fmt's source: count such statements apart). THE CARD IS WHAT COUNTS. Prove the row's statement (the work); the ties are given (YteemmpkhdllapaaGreatDoorTie.lean); close each card by the builder's one call (the guide's Derived/Test/ToyasCard.lean, 'card_holds'). Laid BY PROGRAM, IN A SANDBOX (cutbox-door.mjs). By AI agents, Wed Nov 11 2026. No macro, syntax, notation, axiom, sorry.
-/
import Derived.Test.YteemmpkhdllapaaGreatDoorRows
import GoSem.ClaimSeven
namespace Go.Proofs.YteemmpkhdllapaaGreatDoor
namespace Rows

/-- THE TIED CARD OF 'croftlaw7.SlabPlays'. -/
def slabPlaysCard : Claim7 := { stood := { row := slabPlaysRow, standIns := [], harness := (true, "15470b84bac9e08896c9f3de3f5677ccd2dd8c0ef482bc54a4bb1e2658df1d83"), looks := true }, kinds := [], alts := [], laidByText := true, laidKinds := [.data], laidTests := true, laidLooks := .later }
def SlabPlaysCardSaid : Prop := Claim7.holds Tryz.pinned (.plain (OpenSpec.ofChange slabPlaysSpec)) slabPlaysCard

/-- THE SECOND FORM's CARD OF 'croftlaw7.SlabPlays'. -/
def slabPlaysUptoCard : Claim7 := { stood := { row := slabPlaysUptoRow, standIns := [], harness := (true, "15470b84bac9e08896c9f3de3f5677ccd2dd8c0ef482bc54a4bb1e2658df1d83"), looks := true }, kinds := [], alts := [], laidByText := true, laidKinds := [.data], laidTests := true, laidLooks := .later }
def SlabPlaysUptoCardSaid : Prop := Claim7.holds Tryz.pinned (.plain (OpenSpec.upto slabPlaysSpec)) slabPlaysUptoCard
end Rows
end Go.Proofs.YteemmpkhdllapaaGreatDoor
