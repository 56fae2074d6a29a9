/-
  No cell of these rows narrows 'for every input' (looked for: loops, veiled, ifaces, maps, wideKeys, modest, calm, conditions, laid).
  DERIVED. THE GIVEN ROWS OF THIS SEAT. 7 by the template 'for every input the law returns true; each argument reads behind the call as it read before'; 0 by the template 'total and deterministic' (their statements: YtnlcmfdmbgnpfaaTotals.lean).
  GIVEN WITH THE SEED: the statements are not yours to turn. If you find one false, say at which input.
  Laid BY PROGRAM, IN A SANDBOX (cutbox-rows.mjs): the forced cells as the released guide's own fill.sh prints them over the translation 45e1bb3af9ceaa82… (all of the seat's roots in one cut). By AI agents, Wed Nov 11 2026. No macro, syntax, notation, axiom, sorry.
-/
import Derived.Test.YtnlcmfdmbgnpfaaChecked
import GoSem.Claim
import GoSem.ClaimJoined
import GoSem.ClaimMapViews
import Derived.JoinedTies
import Derived.KernelRfl
namespace Go.Proofs.Ytnlcmfdmbgnpfaa
/- THE CELL 'sum', in the pinned program and in every row, IS THE sha256 OF THE DUMP (.gsa) THAT YtnlcmfdmbgnpfaaProg.lean LOADS. Nothing in Lean hashes anything: it is a label: what it is worth is what the hold of that sum in a sandbox is worth. -/
noncomputable def Try.pinned : Pinned := { name := "ytnlcmfdmbgnpfaa", sum := "45e1bb3af9ceaa822f877ad9add85774e5dceba285056d64f5099d915a702225", checked := Try.checked }
namespace Rows
def none {H : Type} : Left H := { results := [], args := [] }

/-- 'croftlaw5.BuddyExactly': WHATEVER THE INPUT: true; the input reads as it did. -/
def buddyExactlySpec : ChangeSpec := { name := "buddyExactly", fn := fun _ => fun
  | [d1, d2] => { results := [.lit (.bool true)], args := [d1, d2] }
  | _ => none }
def buddyExactlyRow : OpenClaim := { program := "ytnlcmfdmbgnpfaa", sum := "45e1bb3af9ceaa822f877ad9add85774e5dceba285056d64f5099d915a702225", func := "croft/croftlaw5.BuddyExactly", spec := "buddyExactly", unfollowed := true, recurses := true, apart := false }
def BuddyExactlySaid : Prop := buddyExactlyRow.holds Try.pinned (OpenSpec.ofChange buddyExactlySpec)

/-- ITS FALSE NEIGHBOUR: 'it returns false'. Refute it at one input. -/
def buddyExactlyWrong : ChangeSpec := { name := "buddyExactly", fn := fun _ => fun
  | [d1, d2] => { results := [.lit (.bool false)], args := [d1, d2] }
  | _ => none }
def BuddyExactlyWrongFalsely : Prop := buddyExactlyRow.holds Try.pinned (OpenSpec.ofChange buddyExactlyWrong)

/-- 'croftlaw5.BuddyKeeps': WHATEVER THE INPUT: true; the input reads as it did. -/
def buddyKeepsSpec : ChangeSpec := { name := "buddyKeeps", fn := fun _ => fun
  | [d1, d2] => { results := [.lit (.bool true)], args := [d1, d2] }
  | _ => none }
def buddyKeepsRow : OpenClaim := { program := "ytnlcmfdmbgnpfaa", sum := "45e1bb3af9ceaa822f877ad9add85774e5dceba285056d64f5099d915a702225", func := "croft/croftlaw5.BuddyKeeps", spec := "buddyKeeps", unfollowed := true, recurses := true, apart := false }
def BuddyKeepsSaid : Prop := buddyKeepsRow.holds Try.pinned (OpenSpec.ofChange buddyKeepsSpec)

/-- ITS FALSE NEIGHBOUR: 'it returns false'. Refute it at one input. -/
def buddyKeepsWrong : ChangeSpec := { name := "buddyKeeps", fn := fun _ => fun
  | [d1, d2] => { results := [.lit (.bool false)], args := [d1, d2] }
  | _ => none }
def BuddyKeepsWrongFalsely : Prop := buddyKeepsRow.holds Try.pinned (OpenSpec.ofChange buddyKeepsWrong)

/-- 'croftlaw5.BuddyKnown': WHATEVER THE INPUT: true; the input reads as it did. -/
def buddyKnownSpec : ChangeSpec := { name := "buddyKnown", fn := fun _ => fun
  | [] => { results := [.lit (.bool true)], args := [] }
  | _ => none }
def buddyKnownRow : OpenClaim := { program := "ytnlcmfdmbgnpfaa", sum := "45e1bb3af9ceaa822f877ad9add85774e5dceba285056d64f5099d915a702225", func := "croft/croftlaw5.BuddyKnown", spec := "buddyKnown", unfollowed := true, recurses := true, apart := false }
def BuddyKnownSaid : Prop := buddyKnownRow.holds Try.pinned (OpenSpec.ofChange buddyKnownSpec)

/-- ITS FALSE NEIGHBOUR: 'it returns false'. Refute it at one input. -/
def buddyKnownWrong : ChangeSpec := { name := "buddyKnown", fn := fun _ => fun
  | [] => { results := [.lit (.bool false)], args := [] }
  | _ => none }
def BuddyKnownWrongFalsely : Prop := buddyKnownRow.holds Try.pinned (OpenSpec.ofChange buddyKnownWrong)

/-- 'croftlaw5.BuddyEnds': WHATEVER THE INPUT: true; the input reads as it did. -/
def buddyEndsSpec : ChangeSpec := { name := "buddyEnds", fn := fun _ => fun
  | [d1, d2] => { results := [.lit (.bool true)], args := [d1, d2] }
  | _ => none }
def buddyEndsRow : OpenClaim := { program := "ytnlcmfdmbgnpfaa", sum := "45e1bb3af9ceaa822f877ad9add85774e5dceba285056d64f5099d915a702225", func := "croft/croftlaw5.BuddyEnds", spec := "buddyEnds", unfollowed := true, recurses := true, apart := false }
def BuddyEndsSaid : Prop := buddyEndsRow.holds Try.pinned (OpenSpec.ofChange buddyEndsSpec)

/-- ITS FALSE NEIGHBOUR: 'it returns false'. Refute it at one input. -/
def buddyEndsWrong : ChangeSpec := { name := "buddyEnds", fn := fun _ => fun
  | [d1, d2] => { results := [.lit (.bool false)], args := [d1, d2] }
  | _ => none }
def BuddyEndsWrongFalsely : Prop := buddyEndsRow.holds Try.pinned (OpenSpec.ofChange buddyEndsWrong)

/-- 'croftlaw5.BuddyTiles': WHATEVER THE INPUT: true; the input reads as it did. -/
def buddyTilesSpec : ChangeSpec := { name := "buddyTiles", fn := fun _ => fun
  | [d1, d2] => { results := [.lit (.bool true)], args := [d1, d2] }
  | _ => none }
def buddyTilesRow : OpenClaim := { program := "ytnlcmfdmbgnpfaa", sum := "45e1bb3af9ceaa822f877ad9add85774e5dceba285056d64f5099d915a702225", func := "croft/croftlaw5.BuddyTiles", spec := "buddyTiles", unfollowed := true, recurses := true, apart := false }
def BuddyTilesSaid : Prop := buddyTilesRow.holds Try.pinned (OpenSpec.ofChange buddyTilesSpec)

/-- ITS FALSE NEIGHBOUR: 'it returns false'. Refute it at one input. -/
def buddyTilesWrong : ChangeSpec := { name := "buddyTiles", fn := fun _ => fun
  | [d1, d2] => { results := [.lit (.bool false)], args := [d1, d2] }
  | _ => none }
def BuddyTilesWrongFalsely : Prop := buddyTilesRow.holds Try.pinned (OpenSpec.ofChange buddyTilesWrong)

/-- 'croftlaw5.BuddyAhead': WHATEVER THE INPUT: true; the input reads as it did. -/
def buddyAheadSpec : ChangeSpec := { name := "buddyAhead", fn := fun _ => fun
  | [d1, d2, d3] => { results := [.lit (.bool true)], args := [d1, d2, d3] }
  | _ => none }
def buddyAheadRow : OpenClaim := { program := "ytnlcmfdmbgnpfaa", sum := "45e1bb3af9ceaa822f877ad9add85774e5dceba285056d64f5099d915a702225", func := "croft/croftlaw5.BuddyAhead", spec := "buddyAhead", unfollowed := true, recurses := true, apart := false }
def BuddyAheadSaid : Prop := buddyAheadRow.holds Try.pinned (OpenSpec.ofChange buddyAheadSpec)

/-- ITS FALSE NEIGHBOUR: 'it returns false'. Refute it at one input. -/
def buddyAheadWrong : ChangeSpec := { name := "buddyAhead", fn := fun _ => fun
  | [d1, d2, d3] => { results := [.lit (.bool false)], args := [d1, d2, d3] }
  | _ => none }
def BuddyAheadWrongFalsely : Prop := buddyAheadRow.holds Try.pinned (OpenSpec.ofChange buddyAheadWrong)

/-- 'croftlaw5.BuddyTurns': WHATEVER THE INPUT: true; the input reads as it did. -/
def buddyTurnsSpec : ChangeSpec := { name := "buddyTurns", fn := fun _ => fun
  | [d1, d2, d3, d4] => { results := [.lit (.bool true)], args := [d1, d2, d3, d4] }
  | _ => none }
def buddyTurnsRow : OpenClaim := { program := "ytnlcmfdmbgnpfaa", sum := "45e1bb3af9ceaa822f877ad9add85774e5dceba285056d64f5099d915a702225", func := "croft/croftlaw5.BuddyTurns", spec := "buddyTurns", unfollowed := true, recurses := true, apart := false }
def BuddyTurnsSaid : Prop := buddyTurnsRow.holds Try.pinned (OpenSpec.ofChange buddyTurnsSpec)

/-- ITS FALSE NEIGHBOUR: 'it returns false'. Refute it at one input. -/
def buddyTurnsWrong : ChangeSpec := { name := "buddyTurns", fn := fun _ => fun
  | [d1, d2, d3, d4] => { results := [.lit (.bool false)], args := [d1, d2, d3, d4] }
  | _ => none }
def BuddyTurnsWrongFalsely : Prop := buddyTurnsRow.holds Try.pinned (OpenSpec.ofChange buddyTurnsWrong)

/- THE SECOND FORM. 'bulk': how many values and letters a reading holds, each counted each time it is reached (what is shared counts as often as it is met; a slice's spare places count too). A statement '..UptoSaid' is the law's where the arguments, and the package variables that the reading takes, are together of bulk at most 1048576: NARROWER than '..Said'. Prove '..Said' where nothing that the law and all that it calls make is longer than what came in: it says more and counts as full. Else prove '..UptoSaid'. A law counts once. -/
mutual
def uptoBulk {H : Type} : DataW H → Nat
  | .lit (.string bytes) => bytes.length + 1
  | .lit _ => 1
  | .nil => 1
  | .ptr d => uptoBulk d + 1
  | .slice elems spare => uptoBulkAll elems + uptoBulkAll spare + 1
  | .agg parts => uptoBulkAll parts + 1
  | .iface _ d => uptoBulk d + 1
  | .map entries => uptoBulkEntries entries + 1
  | .held _ => 1
def uptoBulkAll {H : Type} : List (DataW H) → Nat
  | [] => 0
  | d :: r => uptoBulk d + uptoBulkAll r
def uptoBulkEntries {H : Type} : List (Lit × DataW H) → Nat
  | [] => 0
  | x :: r => uptoBulkEntry x + uptoBulkEntries r
def uptoBulkEntry {H : Type} : Lit × DataW H → Nat
  | (.string bytes, d) => bytes.length + uptoBulk d + 1
  | (_, d) => uptoBulk d + 1
 end
def uptoSmall : (H : Type) → List (DataW H) → Bool := fun _ ds => decide (uptoBulkAll ds ≤ 1048576)
def OpenSpec.upto (s : _root_.Go.ChangeSpec) : _root_.Go.OpenSpec := { _root_.Go.OpenSpec.ofChange s with cond := some uptoSmall }

/-- 'croftlaw5.BuddyExactly', WHERE WHAT IT READS IS OF BULK AT MOST 1048576: true; the input reads as it did. -/
def buddyExactlyUptoRow : OpenClaim := { program := "ytnlcmfdmbgnpfaa", sum := "45e1bb3af9ceaa822f877ad9add85774e5dceba285056d64f5099d915a702225", func := "croft/croftlaw5.BuddyExactly", spec := "buddyExactly", unfollowed := true, recurses := true, apart := false, narrowed := true }
def BuddyExactlyUptoSaid : Prop := buddyExactlyUptoRow.holds Try.pinned (OpenSpec.upto buddyExactlySpec)

/-- 'croftlaw5.BuddyKeeps', WHERE WHAT IT READS IS OF BULK AT MOST 1048576: true; the input reads as it did. -/
def buddyKeepsUptoRow : OpenClaim := { program := "ytnlcmfdmbgnpfaa", sum := "45e1bb3af9ceaa822f877ad9add85774e5dceba285056d64f5099d915a702225", func := "croft/croftlaw5.BuddyKeeps", spec := "buddyKeeps", unfollowed := true, recurses := true, apart := false, narrowed := true }
def BuddyKeepsUptoSaid : Prop := buddyKeepsUptoRow.holds Try.pinned (OpenSpec.upto buddyKeepsSpec)

/-- 'croftlaw5.BuddyKnown', WHERE WHAT IT READS IS OF BULK AT MOST 1048576: true; the input reads as it did. -/
def buddyKnownUptoRow : OpenClaim := { program := "ytnlcmfdmbgnpfaa", sum := "45e1bb3af9ceaa822f877ad9add85774e5dceba285056d64f5099d915a702225", func := "croft/croftlaw5.BuddyKnown", spec := "buddyKnown", unfollowed := true, recurses := true, apart := false, narrowed := true }
def BuddyKnownUptoSaid : Prop := buddyKnownUptoRow.holds Try.pinned (OpenSpec.upto buddyKnownSpec)

/-- 'croftlaw5.BuddyEnds', WHERE WHAT IT READS IS OF BULK AT MOST 1048576: true; the input reads as it did. -/
def buddyEndsUptoRow : OpenClaim := { program := "ytnlcmfdmbgnpfaa", sum := "45e1bb3af9ceaa822f877ad9add85774e5dceba285056d64f5099d915a702225", func := "croft/croftlaw5.BuddyEnds", spec := "buddyEnds", unfollowed := true, recurses := true, apart := false, narrowed := true }
def BuddyEndsUptoSaid : Prop := buddyEndsUptoRow.holds Try.pinned (OpenSpec.upto buddyEndsSpec)

/-- 'croftlaw5.BuddyTiles', WHERE WHAT IT READS IS OF BULK AT MOST 1048576: true; the input reads as it did. -/
def buddyTilesUptoRow : OpenClaim := { program := "ytnlcmfdmbgnpfaa", sum := "45e1bb3af9ceaa822f877ad9add85774e5dceba285056d64f5099d915a702225", func := "croft/croftlaw5.BuddyTiles", spec := "buddyTiles", unfollowed := true, recurses := true, apart := false, narrowed := true }
def BuddyTilesUptoSaid : Prop := buddyTilesUptoRow.holds Try.pinned (OpenSpec.upto buddyTilesSpec)

/-- 'croftlaw5.BuddyAhead', WHERE WHAT IT READS IS OF BULK AT MOST 1048576: true; the input reads as it did. -/
def buddyAheadUptoRow : OpenClaim := { program := "ytnlcmfdmbgnpfaa", sum := "45e1bb3af9ceaa822f877ad9add85774e5dceba285056d64f5099d915a702225", func := "croft/croftlaw5.BuddyAhead", spec := "buddyAhead", unfollowed := true, recurses := true, apart := false, narrowed := true }
def BuddyAheadUptoSaid : Prop := buddyAheadUptoRow.holds Try.pinned (OpenSpec.upto buddyAheadSpec)

/-- 'croftlaw5.BuddyTurns', WHERE WHAT IT READS IS OF BULK AT MOST 1048576: true; the input reads as it did. -/
def buddyTurnsUptoRow : OpenClaim := { program := "ytnlcmfdmbgnpfaa", sum := "45e1bb3af9ceaa822f877ad9add85774e5dceba285056d64f5099d915a702225", func := "croft/croftlaw5.BuddyTurns", spec := "buddyTurns", unfollowed := true, recurses := true, apart := false, narrowed := true }
def BuddyTurnsUptoSaid : Prop := buddyTurnsUptoRow.holds Try.pinned (OpenSpec.upto buddyTurnsSpec)

end Rows
end Go.Proofs.Ytnlcmfdmbgnpfaa
