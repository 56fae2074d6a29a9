/-
  DERIVED. GIVEN WITH THE SEED: THE CARDS: each row of YteemmpkhdllapaaDoorRows.lean that lists a variable, with what it lists TIED to the program's text (the seventh form; the later family's looks); each row that meets fmt, with fmt's text TOLD by the authors' own Lean function (tested against real Go, not proved from fmt's source: count such statements apart). THE CARD IS WHAT COUNTS. Prove the row's statement (the work); the ties are given (YteemmpkhdllapaaDoorTie.lean); close each card by the builder's one call (the guide's Derived/Test/ToyasCard.lean, 'card_holds'). Laid BY PROGRAM, IN A SANDBOX (cutbox-door.mjs). By AI agents, Wed Nov 11 2026. No macro, syntax, notation, axiom, sorry.
-/
import Derived.Test.YteemmpkhdllapaaDoorRows
import GoSem.ClaimSeven
namespace Go.Proofs.YteemmpkhdllapaaDoor
namespace Rows

/-- THE TIED CARD OF 'croftlaw7.SlabKnown'. -/
def slabKnownCard : Claim7 := { stood := { row := slabKnownRow, standIns := [], harness := (true, "c73fb5888fe7f9fc293df3840576d3c52c916f616981770fbaddbffd7ac5734d"), looks := true }, kinds := [], alts := [], laidByText := true, laidKinds := [.data], laidTests := true, laidLooks := .later }
def SlabKnownCardSaid : Prop := Claim7.holds Tryd.pinned (.plain (OpenSpec.ofChange slabKnownSpec)) slabKnownCard

/-- THE TIED CARD OF 'croftlaw7.SlabEnds'. -/
def slabEndsCard : Claim7 := { stood := { row := slabEndsRow, standIns := [], harness := (true, "c73fb5888fe7f9fc293df3840576d3c52c916f616981770fbaddbffd7ac5734d"), looks := true }, kinds := [], alts := [], laidByText := true, laidKinds := [.data], laidTests := true, laidLooks := .later }
def SlabEndsCardSaid : Prop := Claim7.holds Tryd.pinned (.plain (OpenSpec.ofChange slabEndsSpec)) slabEndsCard

/-- THE TIED CARD OF 'croftlaw7.SlabOrder'. -/
def slabOrderCard : Claim7 := { stood := { row := slabOrderRow, standIns := [], harness := (true, "c73fb5888fe7f9fc293df3840576d3c52c916f616981770fbaddbffd7ac5734d"), looks := true }, kinds := [], alts := [], laidByText := true, laidKinds := [.data], laidTests := true, laidLooks := .later }
def SlabOrderCardSaid : Prop := Claim7.holds Tryd.pinned (.plain (OpenSpec.ofChange slabOrderSpec)) slabOrderCard

/-- THE TIED CARD OF 'croftlaw7.SlabExactly'. -/
def slabExactlyCard : Claim7 := { stood := { row := slabExactlyRow, standIns := [], harness := (true, "c73fb5888fe7f9fc293df3840576d3c52c916f616981770fbaddbffd7ac5734d"), looks := true }, kinds := [], alts := [], laidByText := true, laidKinds := [.data], laidTests := true, laidLooks := .later }
def SlabExactlyCardSaid : Prop := Claim7.holds Tryd.pinned (.plain (OpenSpec.ofChange slabExactlySpec)) slabExactlyCard

/-- THE TIED CARD OF 'croftlaw7.SlabTurns'. -/
def slabTurnsCard : Claim7 := { stood := { row := slabTurnsRow, standIns := [], harness := (true, "c73fb5888fe7f9fc293df3840576d3c52c916f616981770fbaddbffd7ac5734d"), looks := true }, kinds := [], alts := [], laidByText := true, laidKinds := [.data], laidTests := true, laidLooks := .later }
def SlabTurnsCardSaid : Prop := Claim7.holds Tryd.pinned (.plain (OpenSpec.ofChange slabTurnsSpec)) slabTurnsCard

/-- THE TIED CARD OF 'croftlaw7.SlabKeeps'. -/
def slabKeepsCard : Claim7 := { stood := { row := slabKeepsRow, standIns := [], harness := (true, "c73fb5888fe7f9fc293df3840576d3c52c916f616981770fbaddbffd7ac5734d"), looks := true }, kinds := [], alts := [], laidByText := true, laidKinds := [.data], laidTests := true, laidLooks := .later }
def SlabKeepsCardSaid : Prop := Claim7.holds Tryd.pinned (.plain (OpenSpec.ofChange slabKeepsSpec)) slabKeepsCard

/-- THE SECOND FORM's CARD OF 'croftlaw7.SlabKnown'. -/
def slabKnownUptoCard : Claim7 := { stood := { row := slabKnownUptoRow, standIns := [], harness := (true, "c73fb5888fe7f9fc293df3840576d3c52c916f616981770fbaddbffd7ac5734d"), looks := true }, kinds := [], alts := [], laidByText := true, laidKinds := [.data], laidTests := true, laidLooks := .later }
def SlabKnownUptoCardSaid : Prop := Claim7.holds Tryd.pinned (.plain (OpenSpec.upto slabKnownSpec)) slabKnownUptoCard

/-- THE SECOND FORM's CARD OF 'croftlaw7.SlabEnds'. -/
def slabEndsUptoCard : Claim7 := { stood := { row := slabEndsUptoRow, standIns := [], harness := (true, "c73fb5888fe7f9fc293df3840576d3c52c916f616981770fbaddbffd7ac5734d"), looks := true }, kinds := [], alts := [], laidByText := true, laidKinds := [.data], laidTests := true, laidLooks := .later }
def SlabEndsUptoCardSaid : Prop := Claim7.holds Tryd.pinned (.plain (OpenSpec.upto slabEndsSpec)) slabEndsUptoCard

/-- THE SECOND FORM's CARD OF 'croftlaw7.SlabOrder'. -/
def slabOrderUptoCard : Claim7 := { stood := { row := slabOrderUptoRow, standIns := [], harness := (true, "c73fb5888fe7f9fc293df3840576d3c52c916f616981770fbaddbffd7ac5734d"), looks := true }, kinds := [], alts := [], laidByText := true, laidKinds := [.data], laidTests := true, laidLooks := .later }
def SlabOrderUptoCardSaid : Prop := Claim7.holds Tryd.pinned (.plain (OpenSpec.upto slabOrderSpec)) slabOrderUptoCard

/-- THE SECOND FORM's CARD OF 'croftlaw7.SlabExactly'. -/
def slabExactlyUptoCard : Claim7 := { stood := { row := slabExactlyUptoRow, standIns := [], harness := (true, "c73fb5888fe7f9fc293df3840576d3c52c916f616981770fbaddbffd7ac5734d"), looks := true }, kinds := [], alts := [], laidByText := true, laidKinds := [.data], laidTests := true, laidLooks := .later }
def SlabExactlyUptoCardSaid : Prop := Claim7.holds Tryd.pinned (.plain (OpenSpec.upto slabExactlySpec)) slabExactlyUptoCard

/-- THE SECOND FORM's CARD OF 'croftlaw7.SlabTurns'. -/
def slabTurnsUptoCard : Claim7 := { stood := { row := slabTurnsUptoRow, standIns := [], harness := (true, "c73fb5888fe7f9fc293df3840576d3c52c916f616981770fbaddbffd7ac5734d"), looks := true }, kinds := [], alts := [], laidByText := true, laidKinds := [.data], laidTests := true, laidLooks := .later }
def SlabTurnsUptoCardSaid : Prop := Claim7.holds Tryd.pinned (.plain (OpenSpec.upto slabTurnsSpec)) slabTurnsUptoCard

/-- THE SECOND FORM's CARD OF 'croftlaw7.SlabKeeps'. -/
def slabKeepsUptoCard : Claim7 := { stood := { row := slabKeepsUptoRow, standIns := [], harness := (true, "c73fb5888fe7f9fc293df3840576d3c52c916f616981770fbaddbffd7ac5734d"), looks := true }, kinds := [], alts := [], laidByText := true, laidKinds := [.data], laidTests := true, laidLooks := .later }
def SlabKeepsUptoCardSaid : Prop := Claim7.holds Tryd.pinned (.plain (OpenSpec.upto slabKeepsSpec)) slabKeepsUptoCard
end Rows
end Go.Proofs.YteemmpkhdllapaaDoor
