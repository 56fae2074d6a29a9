/-
  No cell of these rows narrows 'for every input' (looked for: loops, veiled, ifaces, maps, wideKeys, modest, calm, conditions, laid).
  DERIVED. THE GIVEN ROWS OF THIS SEAT. 7 by the template 'for every input the law returns true; each argument reads behind the call as it read before'; 0 by the template 'total and deterministic' (their statements: YtfijahblggnbbaaTotals.lean).
  GIVEN WITH THE SEED: the statements are not yours to turn. If you find one false, say at which input.
  Laid BY PROGRAM, IN A SANDBOX (cutbox-rows.mjs): the forced cells as the released guide's own fill.sh prints them over the translation 0a50a0ad72a03771… (all of the seat's roots in one cut). By AI agents, Wed Nov 11 2026. No macro, syntax, notation, axiom, sorry.
-/
import Derived.Test.YtfijahblggnbbaaChecked
import GoSem.Claim
import GoSem.ClaimJoined
import GoSem.ClaimMapViews
import Derived.JoinedTies
import Derived.KernelRfl
namespace Go.Proofs.Ytfijahblggnbbaa
/- THE CELL 'sum', in the pinned program and in every row, IS THE sha256 OF THE DUMP (.gsa) THAT YtfijahblggnbbaaProg.lean LOADS. Nothing in Lean hashes anything: it is a label: what it is worth is what the hold of that sum in a sandbox is worth. -/
noncomputable def Try.pinned : Pinned := { name := "ytfijahblggnbbaa", sum := "0a50a0ad72a03771c21ce029689d4dbfbecbec37476594cf9df9eedaaffbb37f", checked := Try.checked }
namespace Rows
def none {H : Type} : Left H := { results := [], args := [] }

/-- 'croftlaw3.LinksSpoilt': WHATEVER THE INPUT: true; the input reads as it did. -/
def linksSpoiltSpec : ChangeSpec := { name := "linksSpoilt", fn := fun _ => fun
  | [d1, d2, d3, d4] => { results := [.lit (.bool true)], args := [d1, d2, d3, d4] }
  | _ => none }
def linksSpoiltRow : OpenClaim := { program := "ytfijahblggnbbaa", sum := "0a50a0ad72a03771c21ce029689d4dbfbecbec37476594cf9df9eedaaffbb37f", func := "croft/croftlaw3.LinksSpoilt", spec := "linksSpoilt", unfollowed := true, recurses := true, apart := false }
def LinksSpoiltSaid : Prop := linksSpoiltRow.holds Try.pinned (OpenSpec.ofChange linksSpoiltSpec)

/-- ITS FALSE NEIGHBOUR: 'it returns false'. Refute it at one input. -/
def linksSpoiltWrong : ChangeSpec := { name := "linksSpoilt", fn := fun _ => fun
  | [d1, d2, d3, d4] => { results := [.lit (.bool false)], args := [d1, d2, d3, d4] }
  | _ => none }
def LinksSpoiltWrongFalsely : Prop := linksSpoiltRow.holds Try.pinned (OpenSpec.ofChange linksSpoiltWrong)

/-- 'croftlaw3.LinksWithin': WHATEVER THE INPUT: true; the input reads as it did. -/
def linksWithinSpec : ChangeSpec := { name := "linksWithin", fn := fun _ => fun
  | [d1, d2] => { results := [.lit (.bool true)], args := [d1, d2] }
  | _ => none }
def linksWithinRow : OpenClaim := { program := "ytfijahblggnbbaa", sum := "0a50a0ad72a03771c21ce029689d4dbfbecbec37476594cf9df9eedaaffbb37f", func := "croft/croftlaw3.LinksWithin", spec := "linksWithin", unfollowed := true, recurses := true, apart := false }
def LinksWithinSaid : Prop := linksWithinRow.holds Try.pinned (OpenSpec.ofChange linksWithinSpec)

/-- ITS FALSE NEIGHBOUR: 'it returns false'. Refute it at one input. -/
def linksWithinWrong : ChangeSpec := { name := "linksWithin", fn := fun _ => fun
  | [d1, d2] => { results := [.lit (.bool false)], args := [d1, d2] }
  | _ => none }
def LinksWithinWrongFalsely : Prop := linksWithinRow.holds Try.pinned (OpenSpec.ofChange linksWithinWrong)

/-- 'croftlaw3.LinksKnown': WHATEVER THE INPUT: true; the input reads as it did. -/
def linksKnownSpec : ChangeSpec := { name := "linksKnown", fn := fun _ => fun
  | [] => { results := [.lit (.bool true)], args := [] }
  | _ => none }
def linksKnownRow : OpenClaim := { program := "ytfijahblggnbbaa", sum := "0a50a0ad72a03771c21ce029689d4dbfbecbec37476594cf9df9eedaaffbb37f", func := "croft/croftlaw3.LinksKnown", spec := "linksKnown", unfollowed := true, recurses := true, apart := false }
def LinksKnownSaid : Prop := linksKnownRow.holds Try.pinned (OpenSpec.ofChange linksKnownSpec)

/-- ITS FALSE NEIGHBOUR: 'it returns false'. Refute it at one input. -/
def linksKnownWrong : ChangeSpec := { name := "linksKnown", fn := fun _ => fun
  | [] => { results := [.lit (.bool false)], args := [] }
  | _ => none }
def LinksKnownWrongFalsely : Prop := linksKnownRow.holds Try.pinned (OpenSpec.ofChange linksKnownWrong)

/-- 'croftlaw3.LinksStack': WHATEVER THE INPUT: true; the input reads as it did. -/
def linksStackSpec : ChangeSpec := { name := "linksStack", fn := fun _ => fun
  | [d] => { results := [.lit (.bool true)], args := [d] }
  | _ => none }
def linksStackRow : OpenClaim := { program := "ytfijahblggnbbaa", sum := "0a50a0ad72a03771c21ce029689d4dbfbecbec37476594cf9df9eedaaffbb37f", func := "croft/croftlaw3.LinksStack", spec := "linksStack", unfollowed := true, recurses := true, apart := false }
def LinksStackSaid : Prop := linksStackRow.holds Try.pinned (OpenSpec.ofChange linksStackSpec)

/-- ITS FALSE NEIGHBOUR: 'it returns false'. Refute it at one input. -/
def linksStackWrong : ChangeSpec := { name := "linksStack", fn := fun _ => fun
  | [d] => { results := [.lit (.bool false)], args := [d] }
  | _ => none }
def LinksStackWrongFalsely : Prop := linksStackRow.holds Try.pinned (OpenSpec.ofChange linksStackWrong)

/-- 'croftlaw3.LinksPlays': WHATEVER THE INPUT: true; the input reads as it did. -/
def linksPlaysSpec : ChangeSpec := { name := "linksPlays", fn := fun _ => fun
  | [d1, d2] => { results := [.lit (.bool true)], args := [d1, d2] }
  | _ => none }
def linksPlaysRow : OpenClaim := { program := "ytfijahblggnbbaa", sum := "0a50a0ad72a03771c21ce029689d4dbfbecbec37476594cf9df9eedaaffbb37f", func := "croft/croftlaw3.LinksPlays", spec := "linksPlays", unfollowed := true, recurses := true, apart := false }
def LinksPlaysSaid : Prop := linksPlaysRow.holds Try.pinned (OpenSpec.ofChange linksPlaysSpec)

/-- ITS FALSE NEIGHBOUR: 'it returns false'. Refute it at one input. -/
def linksPlaysWrong : ChangeSpec := { name := "linksPlays", fn := fun _ => fun
  | [d1, d2] => { results := [.lit (.bool false)], args := [d1, d2] }
  | _ => none }
def LinksPlaysWrongFalsely : Prop := linksPlaysRow.holds Try.pinned (OpenSpec.ofChange linksPlaysWrong)

/-- 'croftlaw3.LinksRanges': WHATEVER THE INPUT: true; the input reads as it did. -/
def linksRangesSpec : ChangeSpec := { name := "linksRanges", fn := fun _ => fun
  | [d1, d2, d3, d4] => { results := [.lit (.bool true)], args := [d1, d2, d3, d4] }
  | _ => none }
def linksRangesRow : OpenClaim := { program := "ytfijahblggnbbaa", sum := "0a50a0ad72a03771c21ce029689d4dbfbecbec37476594cf9df9eedaaffbb37f", func := "croft/croftlaw3.LinksRanges", spec := "linksRanges", unfollowed := true, recurses := true, apart := false }
def LinksRangesSaid : Prop := linksRangesRow.holds Try.pinned (OpenSpec.ofChange linksRangesSpec)

/-- ITS FALSE NEIGHBOUR: 'it returns false'. Refute it at one input. -/
def linksRangesWrong : ChangeSpec := { name := "linksRanges", fn := fun _ => fun
  | [d1, d2, d3, d4] => { results := [.lit (.bool false)], args := [d1, d2, d3, d4] }
  | _ => none }
def LinksRangesWrongFalsely : Prop := linksRangesRow.holds Try.pinned (OpenSpec.ofChange linksRangesWrong)

/-- 'croftlaw3.LinksShrinks': WHATEVER THE INPUT: true; the input reads as it did. -/
def linksShrinksSpec : ChangeSpec := { name := "linksShrinks", fn := fun _ => fun
  | [d] => { results := [.lit (.bool true)], args := [d] }
  | _ => none }
def linksShrinksRow : OpenClaim := { program := "ytfijahblggnbbaa", sum := "0a50a0ad72a03771c21ce029689d4dbfbecbec37476594cf9df9eedaaffbb37f", func := "croft/croftlaw3.LinksShrinks", spec := "linksShrinks", unfollowed := true, recurses := true, apart := false }
def LinksShrinksSaid : Prop := linksShrinksRow.holds Try.pinned (OpenSpec.ofChange linksShrinksSpec)

/-- ITS FALSE NEIGHBOUR: 'it returns false'. Refute it at one input. -/
def linksShrinksWrong : ChangeSpec := { name := "linksShrinks", fn := fun _ => fun
  | [d] => { results := [.lit (.bool false)], args := [d] }
  | _ => none }
def LinksShrinksWrongFalsely : Prop := linksShrinksRow.holds Try.pinned (OpenSpec.ofChange linksShrinksWrong)

/- THE SECOND FORM. 'bulk': how many values and letters a reading holds, each counted each time it is reached (what is shared counts as often as it is met; a slice's spare places count too). A statement '..UptoSaid' is the law's where the arguments, and the package variables that the reading takes, are together of bulk at most 1048576: NARROWER than '..Said'. Prove '..Said' where nothing that the law and all that it calls make is longer than what came in: it says more and counts as full. Else prove '..UptoSaid'. A law counts once. -/
mutual
def uptoBulk {H : Type} : DataW H → Nat
  | .lit (.string bytes) => bytes.length + 1
  | .lit _ => 1
  | .nil => 1
  | .ptr d => uptoBulk d + 1
  | .slice elems spare => uptoBulkAll elems + uptoBulkAll spare + 1
  | .agg parts => uptoBulkAll parts + 1
  | .iface _ d => uptoBulk d + 1
  | .map entries => uptoBulkEntries entries + 1
  | .held _ => 1
def uptoBulkAll {H : Type} : List (DataW H) → Nat
  | [] => 0
  | d :: r => uptoBulk d + uptoBulkAll r
def uptoBulkEntries {H : Type} : List (Lit × DataW H) → Nat
  | [] => 0
  | x :: r => uptoBulkEntry x + uptoBulkEntries r
def uptoBulkEntry {H : Type} : Lit × DataW H → Nat
  | (.string bytes, d) => bytes.length + uptoBulk d + 1
  | (_, d) => uptoBulk d + 1
 end
def uptoSmall : (H : Type) → List (DataW H) → Bool := fun _ ds => decide (uptoBulkAll ds ≤ 1048576)
def OpenSpec.upto (s : _root_.Go.ChangeSpec) : _root_.Go.OpenSpec := { _root_.Go.OpenSpec.ofChange s with cond := some uptoSmall }

/-- 'croftlaw3.LinksSpoilt', WHERE WHAT IT READS IS OF BULK AT MOST 1048576: true; the input reads as it did. -/
def linksSpoiltUptoRow : OpenClaim := { program := "ytfijahblggnbbaa", sum := "0a50a0ad72a03771c21ce029689d4dbfbecbec37476594cf9df9eedaaffbb37f", func := "croft/croftlaw3.LinksSpoilt", spec := "linksSpoilt", unfollowed := true, recurses := true, apart := false, narrowed := true }
def LinksSpoiltUptoSaid : Prop := linksSpoiltUptoRow.holds Try.pinned (OpenSpec.upto linksSpoiltSpec)

/-- 'croftlaw3.LinksWithin', WHERE WHAT IT READS IS OF BULK AT MOST 1048576: true; the input reads as it did. -/
def linksWithinUptoRow : OpenClaim := { program := "ytfijahblggnbbaa", sum := "0a50a0ad72a03771c21ce029689d4dbfbecbec37476594cf9df9eedaaffbb37f", func := "croft/croftlaw3.LinksWithin", spec := "linksWithin", unfollowed := true, recurses := true, apart := false, narrowed := true }
def LinksWithinUptoSaid : Prop := linksWithinUptoRow.holds Try.pinned (OpenSpec.upto linksWithinSpec)

/-- 'croftlaw3.LinksKnown', WHERE WHAT IT READS IS OF BULK AT MOST 1048576: true; the input reads as it did. -/
def linksKnownUptoRow : OpenClaim := { program := "ytfijahblggnbbaa", sum := "0a50a0ad72a03771c21ce029689d4dbfbecbec37476594cf9df9eedaaffbb37f", func := "croft/croftlaw3.LinksKnown", spec := "linksKnown", unfollowed := true, recurses := true, apart := false, narrowed := true }
def LinksKnownUptoSaid : Prop := linksKnownUptoRow.holds Try.pinned (OpenSpec.upto linksKnownSpec)

/-- 'croftlaw3.LinksStack', WHERE WHAT IT READS IS OF BULK AT MOST 1048576: true; the input reads as it did. -/
def linksStackUptoRow : OpenClaim := { program := "ytfijahblggnbbaa", sum := "0a50a0ad72a03771c21ce029689d4dbfbecbec37476594cf9df9eedaaffbb37f", func := "croft/croftlaw3.LinksStack", spec := "linksStack", unfollowed := true, recurses := true, apart := false, narrowed := true }
def LinksStackUptoSaid : Prop := linksStackUptoRow.holds Try.pinned (OpenSpec.upto linksStackSpec)

/-- 'croftlaw3.LinksPlays', WHERE WHAT IT READS IS OF BULK AT MOST 1048576: true; the input reads as it did. -/
def linksPlaysUptoRow : OpenClaim := { program := "ytfijahblggnbbaa", sum := "0a50a0ad72a03771c21ce029689d4dbfbecbec37476594cf9df9eedaaffbb37f", func := "croft/croftlaw3.LinksPlays", spec := "linksPlays", unfollowed := true, recurses := true, apart := false, narrowed := true }
def LinksPlaysUptoSaid : Prop := linksPlaysUptoRow.holds Try.pinned (OpenSpec.upto linksPlaysSpec)

/-- 'croftlaw3.LinksRanges', WHERE WHAT IT READS IS OF BULK AT MOST 1048576: true; the input reads as it did. -/
def linksRangesUptoRow : OpenClaim := { program := "ytfijahblggnbbaa", sum := "0a50a0ad72a03771c21ce029689d4dbfbecbec37476594cf9df9eedaaffbb37f", func := "croft/croftlaw3.LinksRanges", spec := "linksRanges", unfollowed := true, recurses := true, apart := false, narrowed := true }
def LinksRangesUptoSaid : Prop := linksRangesUptoRow.holds Try.pinned (OpenSpec.upto linksRangesSpec)

/-- 'croftlaw3.LinksShrinks', WHERE WHAT IT READS IS OF BULK AT MOST 1048576: true; the input reads as it did. -/
def linksShrinksUptoRow : OpenClaim := { program := "ytfijahblggnbbaa", sum := "0a50a0ad72a03771c21ce029689d4dbfbecbec37476594cf9df9eedaaffbb37f", func := "croft/croftlaw3.LinksShrinks", spec := "linksShrinks", unfollowed := true, recurses := true, apart := false, narrowed := true }
def LinksShrinksUptoSaid : Prop := linksShrinksUptoRow.holds Try.pinned (OpenSpec.upto linksShrinksSpec)

end Rows
end Go.Proofs.Ytfijahblggnbbaa
