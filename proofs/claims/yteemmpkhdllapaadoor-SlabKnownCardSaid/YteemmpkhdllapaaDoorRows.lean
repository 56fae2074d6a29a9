/-
  NARROWER THAN 'FOR EVERY INPUT', by the rows' own cells (each row's printed sentence says how): SlabKnown: laid · SlabEnds: laid · SlabOrder: laid · SlabExactly: laid · SlabTurns: laid · SlabKeeps: laid.
  DERIVED. THE GIVEN ROWS OF THIS SEAT. 6 by the template 'for every input the law returns true; each argument reads behind the call as it read before'; 0 by the template 'total and deterministic' (their statements: YteemmpkhdllapaaDoorTotals.lean).
  GIVEN WITH THE SEED: the statements are not yours to turn. If you find one false, say at which input.
  Laid BY PROGRAM, IN A SANDBOX (cutbox-rows.mjs): the forced cells as the released guide's own fill.sh prints them over the translation 3110f4d2b78aefe6… (all of the seat's roots in one cut). By AI agents, Wed Nov 11 2026. No macro, syntax, notation, axiom, sorry.
-/
import Derived.Test.YteemmpkhdllapaaDoorChecked
import GoSem.Claim
import GoSem.ClaimJoined
import GoSem.ClaimMapViews
import Derived.JoinedTies
import Derived.KernelRfl
namespace Go.Proofs.YteemmpkhdllapaaDoor
/- THE CELL 'sum', in the pinned program and in every row, IS THE sha256 OF THE DUMP (.gsa) THAT YteemmpkhdllapaaDoorProg.lean LOADS. Nothing in Lean hashes anything: it is a label: what it is worth is what the hold of that sum in a sandbox is worth. -/
noncomputable def Tryd.pinned : Pinned := { name := "yteemmpkhdllapaadoor", sum := "3110f4d2b78aefe66206da953ba36e62f11231bbc429c5da600dcfcc6dbb755d", checked := Tryd.checked }
namespace Rows
def none {H : Type} : Left H := { results := [], args := [] }

/- WHAT THE LISTED PACKAGE-LEVEL VARIABLES READ AS WHEN THE CALL BEGINS. Each datum BY PROGRAM (the guide's laid-datum.mjs) off the statement by which the dump's own 'gosem.cut.vars' lays the variable. In a bare row this is a premise. The card (YteemmpkhdllapaaDoorCards.lean) ties it to the program's text. -/
def laid_croft_slab_widths {H : Type} : DataW H := .agg [.lit (.int .u64 16), .lit (.int .u64 32), .lit (.int .u64 64), .lit (.int .u64 128), .lit (.int .u64 256), .lit (.int .u64 512), .lit (.int .u64 1024), .lit (.int .u64 2048)]

/-- 'croftlaw7.SlabKnown': WHATEVER THE INPUT: true; the input reads as it did. -/
def slabKnownSpec : ChangeSpec := { name := "slabKnown", fn := fun _ => fun
  | [] => { results := [.lit (.bool true)], args := [] }
  | _ => none }
def slabKnownRow : OpenClaim := { program := "yteemmpkhdllapaadoor", sum := "3110f4d2b78aefe66206da953ba36e62f11231bbc429c5da600dcfcc6dbb755d", func := "croft/croftlaw7.SlabKnown", spec := "slabKnown", unfollowed := true, recurses := true, named := ["croft/slab.widths"], apart := false, laid := [("croft/slab.widths", laid_croft_slab_widths)] }
def SlabKnownSaid : Prop := slabKnownRow.holds Tryd.pinned (OpenSpec.ofChange slabKnownSpec)

/-- ITS FALSE NEIGHBOUR: 'it returns false'. Refute it at one input. -/
def slabKnownWrong : ChangeSpec := { name := "slabKnown", fn := fun _ => fun
  | [] => { results := [.lit (.bool false)], args := [] }
  | _ => none }
def SlabKnownWrongFalsely : Prop := slabKnownRow.holds Tryd.pinned (OpenSpec.ofChange slabKnownWrong)

/-- 'croftlaw7.SlabEnds': WHATEVER THE INPUT: true; the input reads as it did. -/
def slabEndsSpec : ChangeSpec := { name := "slabEnds", fn := fun _ => fun
  | [d1, d2] => { results := [.lit (.bool true)], args := [d1, d2] }
  | _ => none }
def slabEndsRow : OpenClaim := { program := "yteemmpkhdllapaadoor", sum := "3110f4d2b78aefe66206da953ba36e62f11231bbc429c5da600dcfcc6dbb755d", func := "croft/croftlaw7.SlabEnds", spec := "slabEnds", unfollowed := true, recurses := true, named := ["croft/slab.widths"], apart := false, laid := [("croft/slab.widths", laid_croft_slab_widths)] }
def SlabEndsSaid : Prop := slabEndsRow.holds Tryd.pinned (OpenSpec.ofChange slabEndsSpec)

/-- ITS FALSE NEIGHBOUR: 'it returns false'. Refute it at one input. -/
def slabEndsWrong : ChangeSpec := { name := "slabEnds", fn := fun _ => fun
  | [d1, d2] => { results := [.lit (.bool false)], args := [d1, d2] }
  | _ => none }
def SlabEndsWrongFalsely : Prop := slabEndsRow.holds Tryd.pinned (OpenSpec.ofChange slabEndsWrong)

/-- 'croftlaw7.SlabOrder': WHATEVER THE INPUT: true; the input reads as it did. -/
def slabOrderSpec : ChangeSpec := { name := "slabOrder", fn := fun _ => fun
  | [d1, d2] => { results := [.lit (.bool true)], args := [d1, d2] }
  | _ => none }
def slabOrderRow : OpenClaim := { program := "yteemmpkhdllapaadoor", sum := "3110f4d2b78aefe66206da953ba36e62f11231bbc429c5da600dcfcc6dbb755d", func := "croft/croftlaw7.SlabOrder", spec := "slabOrder", unfollowed := true, recurses := true, named := ["croft/slab.widths"], apart := false, laid := [("croft/slab.widths", laid_croft_slab_widths)] }
def SlabOrderSaid : Prop := slabOrderRow.holds Tryd.pinned (OpenSpec.ofChange slabOrderSpec)

/-- ITS FALSE NEIGHBOUR: 'it returns false'. Refute it at one input. -/
def slabOrderWrong : ChangeSpec := { name := "slabOrder", fn := fun _ => fun
  | [d1, d2] => { results := [.lit (.bool false)], args := [d1, d2] }
  | _ => none }
def SlabOrderWrongFalsely : Prop := slabOrderRow.holds Tryd.pinned (OpenSpec.ofChange slabOrderWrong)

/-- 'croftlaw7.SlabExactly': WHATEVER THE INPUT: true; the input reads as it did. -/
def slabExactlySpec : ChangeSpec := { name := "slabExactly", fn := fun _ => fun
  | [d1, d2] => { results := [.lit (.bool true)], args := [d1, d2] }
  | _ => none }
def slabExactlyRow : OpenClaim := { program := "yteemmpkhdllapaadoor", sum := "3110f4d2b78aefe66206da953ba36e62f11231bbc429c5da600dcfcc6dbb755d", func := "croft/croftlaw7.SlabExactly", spec := "slabExactly", unfollowed := true, recurses := true, named := ["croft/slab.widths"], apart := false, laid := [("croft/slab.widths", laid_croft_slab_widths)] }
def SlabExactlySaid : Prop := slabExactlyRow.holds Tryd.pinned (OpenSpec.ofChange slabExactlySpec)

/-- ITS FALSE NEIGHBOUR: 'it returns false'. Refute it at one input. -/
def slabExactlyWrong : ChangeSpec := { name := "slabExactly", fn := fun _ => fun
  | [d1, d2] => { results := [.lit (.bool false)], args := [d1, d2] }
  | _ => none }
def SlabExactlyWrongFalsely : Prop := slabExactlyRow.holds Tryd.pinned (OpenSpec.ofChange slabExactlyWrong)

/-- 'croftlaw7.SlabTurns': WHATEVER THE INPUT: true; the input reads as it did. -/
def slabTurnsSpec : ChangeSpec := { name := "slabTurns", fn := fun _ => fun
  | [d1, d2, d3, d4] => { results := [.lit (.bool true)], args := [d1, d2, d3, d4] }
  | _ => none }
def slabTurnsRow : OpenClaim := { program := "yteemmpkhdllapaadoor", sum := "3110f4d2b78aefe66206da953ba36e62f11231bbc429c5da600dcfcc6dbb755d", func := "croft/croftlaw7.SlabTurns", spec := "slabTurns", unfollowed := true, recurses := true, named := ["croft/slab.widths"], apart := false, laid := [("croft/slab.widths", laid_croft_slab_widths)] }
def SlabTurnsSaid : Prop := slabTurnsRow.holds Tryd.pinned (OpenSpec.ofChange slabTurnsSpec)

/-- ITS FALSE NEIGHBOUR: 'it returns false'. Refute it at one input. -/
def slabTurnsWrong : ChangeSpec := { name := "slabTurns", fn := fun _ => fun
  | [d1, d2, d3, d4] => { results := [.lit (.bool false)], args := [d1, d2, d3, d4] }
  | _ => none }
def SlabTurnsWrongFalsely : Prop := slabTurnsRow.holds Tryd.pinned (OpenSpec.ofChange slabTurnsWrong)

/-- 'croftlaw7.SlabKeeps': WHATEVER THE INPUT: true; the input reads as it did. -/
def slabKeepsSpec : ChangeSpec := { name := "slabKeeps", fn := fun _ => fun
  | [d1, d2] => { results := [.lit (.bool true)], args := [d1, d2] }
  | _ => none }
def slabKeepsRow : OpenClaim := { program := "yteemmpkhdllapaadoor", sum := "3110f4d2b78aefe66206da953ba36e62f11231bbc429c5da600dcfcc6dbb755d", func := "croft/croftlaw7.SlabKeeps", spec := "slabKeeps", unfollowed := true, recurses := true, named := ["croft/slab.widths"], apart := false, laid := [("croft/slab.widths", laid_croft_slab_widths)] }
def SlabKeepsSaid : Prop := slabKeepsRow.holds Tryd.pinned (OpenSpec.ofChange slabKeepsSpec)

/-- ITS FALSE NEIGHBOUR: 'it returns false'. Refute it at one input. -/
def slabKeepsWrong : ChangeSpec := { name := "slabKeeps", fn := fun _ => fun
  | [d1, d2] => { results := [.lit (.bool false)], args := [d1, d2] }
  | _ => none }
def SlabKeepsWrongFalsely : Prop := slabKeepsRow.holds Tryd.pinned (OpenSpec.ofChange slabKeepsWrong)

/- THE SECOND FORM. 'bulk': how many values and letters a reading holds, each counted each time it is reached (what is shared counts as often as it is met; a slice's spare places count too). A statement '..UptoSaid' is the law's where the arguments, and the package variables that the reading takes, are together of bulk at most 1048576: NARROWER than '..Said'. Prove '..Said' where nothing that the law and all that it calls make is longer than what came in: it says more and counts as full. Else prove '..UptoSaid'. A law counts once. -/
mutual
def uptoBulk {H : Type} : DataW H → Nat
  | .lit (.string bytes) => bytes.length + 1
  | .lit _ => 1
  | .nil => 1
  | .ptr d => uptoBulk d + 1
  | .slice elems spare => uptoBulkAll elems + uptoBulkAll spare + 1
  | .agg parts => uptoBulkAll parts + 1
  | .iface _ d => uptoBulk d + 1
  | .map entries => uptoBulkEntries entries + 1
  | .held _ => 1
def uptoBulkAll {H : Type} : List (DataW H) → Nat
  | [] => 0
  | d :: r => uptoBulk d + uptoBulkAll r
def uptoBulkEntries {H : Type} : List (Lit × DataW H) → Nat
  | [] => 0
  | x :: r => uptoBulkEntry x + uptoBulkEntries r
def uptoBulkEntry {H : Type} : Lit × DataW H → Nat
  | (.string bytes, d) => bytes.length + uptoBulk d + 1
  | (_, d) => uptoBulk d + 1
 end
def uptoSmall : (H : Type) → List (DataW H) → Bool := fun _ ds => decide (uptoBulkAll ds ≤ 1048576)
def OpenSpec.upto (s : _root_.Go.ChangeSpec) : _root_.Go.OpenSpec := { _root_.Go.OpenSpec.ofChange s with cond := some uptoSmall }

/-- 'croftlaw7.SlabKnown', WHERE WHAT IT READS IS OF BULK AT MOST 1048576: true; the input reads as it did. -/
def slabKnownUptoRow : OpenClaim := { program := "yteemmpkhdllapaadoor", sum := "3110f4d2b78aefe66206da953ba36e62f11231bbc429c5da600dcfcc6dbb755d", func := "croft/croftlaw7.SlabKnown", spec := "slabKnown", unfollowed := true, recurses := true, named := ["croft/slab.widths"], apart := false, laid := [("croft/slab.widths", laid_croft_slab_widths)], narrowed := true }
def SlabKnownUptoSaid : Prop := slabKnownUptoRow.holds Tryd.pinned (OpenSpec.upto slabKnownSpec)

/-- 'croftlaw7.SlabEnds', WHERE WHAT IT READS IS OF BULK AT MOST 1048576: true; the input reads as it did. -/
def slabEndsUptoRow : OpenClaim := { program := "yteemmpkhdllapaadoor", sum := "3110f4d2b78aefe66206da953ba36e62f11231bbc429c5da600dcfcc6dbb755d", func := "croft/croftlaw7.SlabEnds", spec := "slabEnds", unfollowed := true, recurses := true, named := ["croft/slab.widths"], apart := false, laid := [("croft/slab.widths", laid_croft_slab_widths)], narrowed := true }
def SlabEndsUptoSaid : Prop := slabEndsUptoRow.holds Tryd.pinned (OpenSpec.upto slabEndsSpec)

/-- 'croftlaw7.SlabOrder', WHERE WHAT IT READS IS OF BULK AT MOST 1048576: true; the input reads as it did. -/
def slabOrderUptoRow : OpenClaim := { program := "yteemmpkhdllapaadoor", sum := "3110f4d2b78aefe66206da953ba36e62f11231bbc429c5da600dcfcc6dbb755d", func := "croft/croftlaw7.SlabOrder", spec := "slabOrder", unfollowed := true, recurses := true, named := ["croft/slab.widths"], apart := false, laid := [("croft/slab.widths", laid_croft_slab_widths)], narrowed := true }
def SlabOrderUptoSaid : Prop := slabOrderUptoRow.holds Tryd.pinned (OpenSpec.upto slabOrderSpec)

/-- 'croftlaw7.SlabExactly', WHERE WHAT IT READS IS OF BULK AT MOST 1048576: true; the input reads as it did. -/
def slabExactlyUptoRow : OpenClaim := { program := "yteemmpkhdllapaadoor", sum := "3110f4d2b78aefe66206da953ba36e62f11231bbc429c5da600dcfcc6dbb755d", func := "croft/croftlaw7.SlabExactly", spec := "slabExactly", unfollowed := true, recurses := true, named := ["croft/slab.widths"], apart := false, laid := [("croft/slab.widths", laid_croft_slab_widths)], narrowed := true }
def SlabExactlyUptoSaid : Prop := slabExactlyUptoRow.holds Tryd.pinned (OpenSpec.upto slabExactlySpec)

/-- 'croftlaw7.SlabTurns', WHERE WHAT IT READS IS OF BULK AT MOST 1048576: true; the input reads as it did. -/
def slabTurnsUptoRow : OpenClaim := { program := "yteemmpkhdllapaadoor", sum := "3110f4d2b78aefe66206da953ba36e62f11231bbc429c5da600dcfcc6dbb755d", func := "croft/croftlaw7.SlabTurns", spec := "slabTurns", unfollowed := true, recurses := true, named := ["croft/slab.widths"], apart := false, laid := [("croft/slab.widths", laid_croft_slab_widths)], narrowed := true }
def SlabTurnsUptoSaid : Prop := slabTurnsUptoRow.holds Tryd.pinned (OpenSpec.upto slabTurnsSpec)

/-- 'croftlaw7.SlabKeeps', WHERE WHAT IT READS IS OF BULK AT MOST 1048576: true; the input reads as it did. -/
def slabKeepsUptoRow : OpenClaim := { program := "yteemmpkhdllapaadoor", sum := "3110f4d2b78aefe66206da953ba36e62f11231bbc429c5da600dcfcc6dbb755d", func := "croft/croftlaw7.SlabKeeps", spec := "slabKeeps", unfollowed := true, recurses := true, named := ["croft/slab.widths"], apart := false, laid := [("croft/slab.widths", laid_croft_slab_widths)], narrowed := true }
def SlabKeepsUptoSaid : Prop := slabKeepsUptoRow.holds Tryd.pinned (OpenSpec.upto slabKeepsSpec)

end Rows
end Go.Proofs.YteemmpkhdllapaaDoor
