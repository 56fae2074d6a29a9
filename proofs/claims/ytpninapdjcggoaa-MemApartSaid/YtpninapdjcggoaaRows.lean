/-
  No cell of these rows narrows 'for every input' (looked for: loops, veiled, ifaces, maps, wideKeys, modest, calm, conditions, laid).
  DERIVED. THE GIVEN ROWS OF THIS SEAT. 12 by the template 'for every input the law returns true; each argument reads behind the call as it read before'; 0 by the template 'total and deterministic' (their statements: YtpninapdjcggoaaTotals.lean).
  GIVEN WITH THE SEED: the statements are not yours to turn. If you find one false, say at which input.
  Laid BY PROGRAM, IN A SANDBOX (cutbox-rows.mjs): the forced cells as the released guide's own fill.sh prints them over the translation e97e2fc2f7085414… (all of the seat's roots in one cut). By AI agents, Wed Nov 11 2026. No macro, syntax, notation, axiom, sorry.
-/
import Derived.Test.YtpninapdjcggoaaChecked
import GoSem.Claim
import GoSem.ClaimJoined
import GoSem.ClaimMapViews
import Derived.JoinedTies
import Derived.KernelRfl
namespace Go.Proofs.Ytpninapdjcggoaa
/- THE CELL 'sum', in the pinned program and in every row, IS THE sha256 OF THE DUMP (.gsa) THAT YtpninapdjcggoaaProg.lean LOADS. Nothing in Lean hashes anything: it is a label: what it is worth is what the hold of that sum in a sandbox is worth. -/
noncomputable def Try.pinned : Pinned := { name := "ytpninapdjcggoaa", sum := "e97e2fc2f7085414f03212823fb2058d8af6b2b1bd4189e294bd70a99873823b", checked := Try.checked }
namespace Rows
def none {H : Type} : Left H := { results := [], args := [] }

/-- 'croftlaw3.LinksNames': WHATEVER THE INPUT: true; the input reads as it did. -/
def linksNamesSpec : ChangeSpec := { name := "linksNames", fn := fun _ => fun
  | [] => { results := [.lit (.bool true)], args := [] }
  | _ => none }
def linksNamesRow : OpenClaim := { program := "ytpninapdjcggoaa", sum := "e97e2fc2f7085414f03212823fb2058d8af6b2b1bd4189e294bd70a99873823b", func := "croft/croftlaw3.LinksNames", spec := "linksNames", apart := false }
def LinksNamesSaid : Prop := linksNamesRow.holds Try.pinned (OpenSpec.ofChange linksNamesSpec)

/-- ITS FALSE NEIGHBOUR: 'it returns false'. Refute it at one input. -/
def linksNamesWrong : ChangeSpec := { name := "linksNames", fn := fun _ => fun
  | [] => { results := [.lit (.bool false)], args := [] }
  | _ => none }
def LinksNamesWrongFalsely : Prop := linksNamesRow.holds Try.pinned (OpenSpec.ofChange linksNamesWrong)

/-- 'croftlaw2.MemNews': WHATEVER THE INPUT: true; the input reads as it did. -/
def memNewsSpec : ChangeSpec := { name := "memNews", fn := fun _ => fun
  | [d] => { results := [.lit (.bool true)], args := [d] }
  | _ => none }
def memNewsRow : OpenClaim := { program := "ytpninapdjcggoaa", sum := "e97e2fc2f7085414f03212823fb2058d8af6b2b1bd4189e294bd70a99873823b", func := "croft/croftlaw2.MemNews", spec := "memNews", unfollowed := true, recurses := true, apart := false }
def MemNewsSaid : Prop := memNewsRow.holds Try.pinned (OpenSpec.ofChange memNewsSpec)

/-- ITS FALSE NEIGHBOUR: 'it returns false'. Refute it at one input. -/
def memNewsWrong : ChangeSpec := { name := "memNews", fn := fun _ => fun
  | [d] => { results := [.lit (.bool false)], args := [d] }
  | _ => none }
def MemNewsWrongFalsely : Prop := memNewsRow.holds Try.pinned (OpenSpec.ofChange memNewsWrong)

/-- 'croftlaw2.MemKept': WHATEVER THE INPUT: true; the input reads as it did. -/
def memKeptSpec : ChangeSpec := { name := "memKept", fn := fun _ => fun
  | [d] => { results := [.lit (.bool true)], args := [d] }
  | _ => none }
def memKeptRow : OpenClaim := { program := "ytpninapdjcggoaa", sum := "e97e2fc2f7085414f03212823fb2058d8af6b2b1bd4189e294bd70a99873823b", func := "croft/croftlaw2.MemKept", spec := "memKept", unfollowed := true, recurses := true, apart := false }
def MemKeptSaid : Prop := memKeptRow.holds Try.pinned (OpenSpec.ofChange memKeptSpec)

/-- ITS FALSE NEIGHBOUR: 'it returns false'. Refute it at one input. -/
def memKeptWrong : ChangeSpec := { name := "memKept", fn := fun _ => fun
  | [d] => { results := [.lit (.bool false)], args := [d] }
  | _ => none }
def MemKeptWrongFalsely : Prop := memKeptRow.holds Try.pinned (OpenSpec.ofChange memKeptWrong)

/-- 'croftlaw2.MemCopies': WHATEVER THE INPUT: true; the input reads as it did. -/
def memCopiesSpec : ChangeSpec := { name := "memCopies", fn := fun _ => fun
  | [d1, d2, d3] => { results := [.lit (.bool true)], args := [d1, d2, d3] }
  | _ => none }
def memCopiesRow : OpenClaim := { program := "ytpninapdjcggoaa", sum := "e97e2fc2f7085414f03212823fb2058d8af6b2b1bd4189e294bd70a99873823b", func := "croft/croftlaw2.MemCopies", spec := "memCopies", unfollowed := true, recurses := true, apart := false }
def MemCopiesSaid : Prop := memCopiesRow.holds Try.pinned (OpenSpec.ofChange memCopiesSpec)

/-- ITS FALSE NEIGHBOUR: 'it returns false'. Refute it at one input. -/
def memCopiesWrong : ChangeSpec := { name := "memCopies", fn := fun _ => fun
  | [d1, d2, d3] => { results := [.lit (.bool false)], args := [d1, d2, d3] }
  | _ => none }
def MemCopiesWrongFalsely : Prop := memCopiesRow.holds Try.pinned (OpenSpec.ofChange memCopiesWrong)

/-- 'croftlaw2.MemBegins': WHATEVER THE INPUT: true; the input reads as it did. -/
def memBeginsSpec : ChangeSpec := { name := "memBegins", fn := fun _ => fun
  | [d1, d2] => { results := [.lit (.bool true)], args := [d1, d2] }
  | _ => none }
def memBeginsRow : OpenClaim := { program := "ytpninapdjcggoaa", sum := "e97e2fc2f7085414f03212823fb2058d8af6b2b1bd4189e294bd70a99873823b", func := "croft/croftlaw2.MemBegins", spec := "memBegins", unfollowed := true, recurses := true, apart := false }
def MemBeginsSaid : Prop := memBeginsRow.holds Try.pinned (OpenSpec.ofChange memBeginsSpec)

/-- ITS FALSE NEIGHBOUR: 'it returns false'. Refute it at one input. -/
def memBeginsWrong : ChangeSpec := { name := "memBegins", fn := fun _ => fun
  | [d1, d2] => { results := [.lit (.bool false)], args := [d1, d2] }
  | _ => none }
def MemBeginsWrongFalsely : Prop := memBeginsRow.holds Try.pinned (OpenSpec.ofChange memBeginsWrong)

/-- 'croftlaw2.MemHolds': WHATEVER THE INPUT: true; the input reads as it did. -/
def memHoldsSpec : ChangeSpec := { name := "memHolds", fn := fun _ => fun
  | [d1, d2, d3] => { results := [.lit (.bool true)], args := [d1, d2, d3] }
  | _ => none }
def memHoldsRow : OpenClaim := { program := "ytpninapdjcggoaa", sum := "e97e2fc2f7085414f03212823fb2058d8af6b2b1bd4189e294bd70a99873823b", func := "croft/croftlaw2.MemHolds", spec := "memHolds", unfollowed := true, recurses := true, apart := false }
def MemHoldsSaid : Prop := memHoldsRow.holds Try.pinned (OpenSpec.ofChange memHoldsSpec)

/-- ITS FALSE NEIGHBOUR: 'it returns false'. Refute it at one input. -/
def memHoldsWrong : ChangeSpec := { name := "memHolds", fn := fun _ => fun
  | [d1, d2, d3] => { results := [.lit (.bool false)], args := [d1, d2, d3] }
  | _ => none }
def MemHoldsWrongFalsely : Prop := memHoldsRow.holds Try.pinned (OpenSpec.ofChange memHoldsWrong)

/-- 'croftlaw2.MemThere': WHATEVER THE INPUT: true; the input reads as it did. -/
def memThereSpec : ChangeSpec := { name := "memThere", fn := fun _ => fun
  | [d1, d2, d3] => { results := [.lit (.bool true)], args := [d1, d2, d3] }
  | _ => none }
def memThereRow : OpenClaim := { program := "ytpninapdjcggoaa", sum := "e97e2fc2f7085414f03212823fb2058d8af6b2b1bd4189e294bd70a99873823b", func := "croft/croftlaw2.MemThere", spec := "memThere", unfollowed := true, recurses := true, apart := false }
def MemThereSaid : Prop := memThereRow.holds Try.pinned (OpenSpec.ofChange memThereSpec)

/-- ITS FALSE NEIGHBOUR: 'it returns false'. Refute it at one input. -/
def memThereWrong : ChangeSpec := { name := "memThere", fn := fun _ => fun
  | [d1, d2, d3] => { results := [.lit (.bool false)], args := [d1, d2, d3] }
  | _ => none }
def MemThereWrongFalsely : Prop := memThereRow.holds Try.pinned (OpenSpec.ofChange memThereWrong)

/-- 'croftlaw2.MemKnown': WHATEVER THE INPUT: true; the input reads as it did. -/
def memKnownSpec : ChangeSpec := { name := "memKnown", fn := fun _ => fun
  | [] => { results := [.lit (.bool true)], args := [] }
  | _ => none }
def memKnownRow : OpenClaim := { program := "ytpninapdjcggoaa", sum := "e97e2fc2f7085414f03212823fb2058d8af6b2b1bd4189e294bd70a99873823b", func := "croft/croftlaw2.MemKnown", spec := "memKnown", unfollowed := true, recurses := true, apart := false }
def MemKnownSaid : Prop := memKnownRow.holds Try.pinned (OpenSpec.ofChange memKnownSpec)

/-- ITS FALSE NEIGHBOUR: 'it returns false'. Refute it at one input. -/
def memKnownWrong : ChangeSpec := { name := "memKnown", fn := fun _ => fun
  | [] => { results := [.lit (.bool false)], args := [] }
  | _ => none }
def MemKnownWrongFalsely : Prop := memKnownRow.holds Try.pinned (OpenSpec.ofChange memKnownWrong)

/-- 'croftlaw2.MemPlays': WHATEVER THE INPUT: true; the input reads as it did. -/
def memPlaysSpec : ChangeSpec := { name := "memPlays", fn := fun _ => fun
  | [d1, d2] => { results := [.lit (.bool true)], args := [d1, d2] }
  | _ => none }
def memPlaysRow : OpenClaim := { program := "ytpninapdjcggoaa", sum := "e97e2fc2f7085414f03212823fb2058d8af6b2b1bd4189e294bd70a99873823b", func := "croft/croftlaw2.MemPlays", spec := "memPlays", unfollowed := true, recurses := true, apart := false }
def MemPlaysSaid : Prop := memPlaysRow.holds Try.pinned (OpenSpec.ofChange memPlaysSpec)

/-- ITS FALSE NEIGHBOUR: 'it returns false'. Refute it at one input. -/
def memPlaysWrong : ChangeSpec := { name := "memPlays", fn := fun _ => fun
  | [d1, d2] => { results := [.lit (.bool false)], args := [d1, d2] }
  | _ => none }
def MemPlaysWrongFalsely : Prop := memPlaysRow.holds Try.pinned (OpenSpec.ofChange memPlaysWrong)

/-- 'croftlaw2.MemRefused': WHATEVER THE INPUT: true; the input reads as it did. -/
def memRefusedSpec : ChangeSpec := { name := "memRefused", fn := fun _ => fun
  | [d1, d2] => { results := [.lit (.bool true)], args := [d1, d2] }
  | _ => none }
def memRefusedRow : OpenClaim := { program := "ytpninapdjcggoaa", sum := "e97e2fc2f7085414f03212823fb2058d8af6b2b1bd4189e294bd70a99873823b", func := "croft/croftlaw2.MemRefused", spec := "memRefused", unfollowed := true, recurses := true, apart := false }
def MemRefusedSaid : Prop := memRefusedRow.holds Try.pinned (OpenSpec.ofChange memRefusedSpec)

/-- ITS FALSE NEIGHBOUR: 'it returns false'. Refute it at one input. -/
def memRefusedWrong : ChangeSpec := { name := "memRefused", fn := fun _ => fun
  | [d1, d2] => { results := [.lit (.bool false)], args := [d1, d2] }
  | _ => none }
def MemRefusedWrongFalsely : Prop := memRefusedRow.holds Try.pinned (OpenSpec.ofChange memRefusedWrong)

/-- 'croftlaw2.MemApart': WHATEVER THE INPUT: true; the input reads as it did. -/
def memApartSpec : ChangeSpec := { name := "memApart", fn := fun _ => fun
  | [d1, d2, d3] => { results := [.lit (.bool true)], args := [d1, d2, d3] }
  | _ => none }
def memApartRow : OpenClaim := { program := "ytpninapdjcggoaa", sum := "e97e2fc2f7085414f03212823fb2058d8af6b2b1bd4189e294bd70a99873823b", func := "croft/croftlaw2.MemApart", spec := "memApart", unfollowed := true, recurses := true, apart := false }
def MemApartSaid : Prop := memApartRow.holds Try.pinned (OpenSpec.ofChange memApartSpec)

/-- ITS FALSE NEIGHBOUR: 'it returns false'. Refute it at one input. -/
def memApartWrong : ChangeSpec := { name := "memApart", fn := fun _ => fun
  | [d1, d2, d3] => { results := [.lit (.bool false)], args := [d1, d2, d3] }
  | _ => none }
def MemApartWrongFalsely : Prop := memApartRow.holds Try.pinned (OpenSpec.ofChange memApartWrong)

/-- 'crofttop.TopNames': WHATEVER THE INPUT: true; the input reads as it did. -/
def topNamesSpec : ChangeSpec := { name := "topNames", fn := fun _ => fun
  | [] => { results := [.lit (.bool true)], args := [] }
  | _ => none }
def topNamesRow : OpenClaim := { program := "ytpninapdjcggoaa", sum := "e97e2fc2f7085414f03212823fb2058d8af6b2b1bd4189e294bd70a99873823b", func := "croft/crofttop.TopNames", spec := "topNames", apart := false }
def TopNamesSaid : Prop := topNamesRow.holds Try.pinned (OpenSpec.ofChange topNamesSpec)

/-- ITS FALSE NEIGHBOUR: 'it returns false'. Refute it at one input. -/
def topNamesWrong : ChangeSpec := { name := "topNames", fn := fun _ => fun
  | [] => { results := [.lit (.bool false)], args := [] }
  | _ => none }
def TopNamesWrongFalsely : Prop := topNamesRow.holds Try.pinned (OpenSpec.ofChange topNamesWrong)

/- THE SECOND FORM. 'bulk': how many values and letters a reading holds, each counted each time it is reached (what is shared counts as often as it is met; a slice's spare places count too). A statement '..UptoSaid' is the law's where the arguments, and the package variables that the reading takes, are together of bulk at most 1048576: NARROWER than '..Said'. Prove '..Said' where nothing that the law and all that it calls make is longer than what came in: it says more and counts as full. Else prove '..UptoSaid'. A law counts once. -/
mutual
def uptoBulk {H : Type} : DataW H → Nat
  | .lit (.string bytes) => bytes.length + 1
  | .lit _ => 1
  | .nil => 1
  | .ptr d => uptoBulk d + 1
  | .slice elems spare => uptoBulkAll elems + uptoBulkAll spare + 1
  | .agg parts => uptoBulkAll parts + 1
  | .iface _ d => uptoBulk d + 1
  | .map entries => uptoBulkEntries entries + 1
  | .held _ => 1
def uptoBulkAll {H : Type} : List (DataW H) → Nat
  | [] => 0
  | d :: r => uptoBulk d + uptoBulkAll r
def uptoBulkEntries {H : Type} : List (Lit × DataW H) → Nat
  | [] => 0
  | x :: r => uptoBulkEntry x + uptoBulkEntries r
def uptoBulkEntry {H : Type} : Lit × DataW H → Nat
  | (.string bytes, d) => bytes.length + uptoBulk d + 1
  | (_, d) => uptoBulk d + 1
 end
def uptoSmall : (H : Type) → List (DataW H) → Bool := fun _ ds => decide (uptoBulkAll ds ≤ 1048576)
def OpenSpec.upto (s : _root_.Go.ChangeSpec) : _root_.Go.OpenSpec := { _root_.Go.OpenSpec.ofChange s with cond := some uptoSmall }

/-- 'croftlaw3.LinksNames', WHERE WHAT IT READS IS OF BULK AT MOST 1048576: true; the input reads as it did. -/
def linksNamesUptoRow : OpenClaim := { program := "ytpninapdjcggoaa", sum := "e97e2fc2f7085414f03212823fb2058d8af6b2b1bd4189e294bd70a99873823b", func := "croft/croftlaw3.LinksNames", spec := "linksNames", apart := false, narrowed := true }
def LinksNamesUptoSaid : Prop := linksNamesUptoRow.holds Try.pinned (OpenSpec.upto linksNamesSpec)

/-- 'croftlaw2.MemNews', WHERE WHAT IT READS IS OF BULK AT MOST 1048576: true; the input reads as it did. -/
def memNewsUptoRow : OpenClaim := { program := "ytpninapdjcggoaa", sum := "e97e2fc2f7085414f03212823fb2058d8af6b2b1bd4189e294bd70a99873823b", func := "croft/croftlaw2.MemNews", spec := "memNews", unfollowed := true, recurses := true, apart := false, narrowed := true }
def MemNewsUptoSaid : Prop := memNewsUptoRow.holds Try.pinned (OpenSpec.upto memNewsSpec)

/-- 'croftlaw2.MemKept', WHERE WHAT IT READS IS OF BULK AT MOST 1048576: true; the input reads as it did. -/
def memKeptUptoRow : OpenClaim := { program := "ytpninapdjcggoaa", sum := "e97e2fc2f7085414f03212823fb2058d8af6b2b1bd4189e294bd70a99873823b", func := "croft/croftlaw2.MemKept", spec := "memKept", unfollowed := true, recurses := true, apart := false, narrowed := true }
def MemKeptUptoSaid : Prop := memKeptUptoRow.holds Try.pinned (OpenSpec.upto memKeptSpec)

/-- 'croftlaw2.MemCopies', WHERE WHAT IT READS IS OF BULK AT MOST 1048576: true; the input reads as it did. -/
def memCopiesUptoRow : OpenClaim := { program := "ytpninapdjcggoaa", sum := "e97e2fc2f7085414f03212823fb2058d8af6b2b1bd4189e294bd70a99873823b", func := "croft/croftlaw2.MemCopies", spec := "memCopies", unfollowed := true, recurses := true, apart := false, narrowed := true }
def MemCopiesUptoSaid : Prop := memCopiesUptoRow.holds Try.pinned (OpenSpec.upto memCopiesSpec)

/-- 'croftlaw2.MemBegins', WHERE WHAT IT READS IS OF BULK AT MOST 1048576: true; the input reads as it did. -/
def memBeginsUptoRow : OpenClaim := { program := "ytpninapdjcggoaa", sum := "e97e2fc2f7085414f03212823fb2058d8af6b2b1bd4189e294bd70a99873823b", func := "croft/croftlaw2.MemBegins", spec := "memBegins", unfollowed := true, recurses := true, apart := false, narrowed := true }
def MemBeginsUptoSaid : Prop := memBeginsUptoRow.holds Try.pinned (OpenSpec.upto memBeginsSpec)

/-- 'croftlaw2.MemHolds', WHERE WHAT IT READS IS OF BULK AT MOST 1048576: true; the input reads as it did. -/
def memHoldsUptoRow : OpenClaim := { program := "ytpninapdjcggoaa", sum := "e97e2fc2f7085414f03212823fb2058d8af6b2b1bd4189e294bd70a99873823b", func := "croft/croftlaw2.MemHolds", spec := "memHolds", unfollowed := true, recurses := true, apart := false, narrowed := true }
def MemHoldsUptoSaid : Prop := memHoldsUptoRow.holds Try.pinned (OpenSpec.upto memHoldsSpec)

/-- 'croftlaw2.MemThere', WHERE WHAT IT READS IS OF BULK AT MOST 1048576: true; the input reads as it did. -/
def memThereUptoRow : OpenClaim := { program := "ytpninapdjcggoaa", sum := "e97e2fc2f7085414f03212823fb2058d8af6b2b1bd4189e294bd70a99873823b", func := "croft/croftlaw2.MemThere", spec := "memThere", unfollowed := true, recurses := true, apart := false, narrowed := true }
def MemThereUptoSaid : Prop := memThereUptoRow.holds Try.pinned (OpenSpec.upto memThereSpec)

/-- 'croftlaw2.MemKnown', WHERE WHAT IT READS IS OF BULK AT MOST 1048576: true; the input reads as it did. -/
def memKnownUptoRow : OpenClaim := { program := "ytpninapdjcggoaa", sum := "e97e2fc2f7085414f03212823fb2058d8af6b2b1bd4189e294bd70a99873823b", func := "croft/croftlaw2.MemKnown", spec := "memKnown", unfollowed := true, recurses := true, apart := false, narrowed := true }
def MemKnownUptoSaid : Prop := memKnownUptoRow.holds Try.pinned (OpenSpec.upto memKnownSpec)

/-- 'croftlaw2.MemPlays', WHERE WHAT IT READS IS OF BULK AT MOST 1048576: true; the input reads as it did. -/
def memPlaysUptoRow : OpenClaim := { program := "ytpninapdjcggoaa", sum := "e97e2fc2f7085414f03212823fb2058d8af6b2b1bd4189e294bd70a99873823b", func := "croft/croftlaw2.MemPlays", spec := "memPlays", unfollowed := true, recurses := true, apart := false, narrowed := true }
def MemPlaysUptoSaid : Prop := memPlaysUptoRow.holds Try.pinned (OpenSpec.upto memPlaysSpec)

/-- 'croftlaw2.MemRefused', WHERE WHAT IT READS IS OF BULK AT MOST 1048576: true; the input reads as it did. -/
def memRefusedUptoRow : OpenClaim := { program := "ytpninapdjcggoaa", sum := "e97e2fc2f7085414f03212823fb2058d8af6b2b1bd4189e294bd70a99873823b", func := "croft/croftlaw2.MemRefused", spec := "memRefused", unfollowed := true, recurses := true, apart := false, narrowed := true }
def MemRefusedUptoSaid : Prop := memRefusedUptoRow.holds Try.pinned (OpenSpec.upto memRefusedSpec)

/-- 'croftlaw2.MemApart', WHERE WHAT IT READS IS OF BULK AT MOST 1048576: true; the input reads as it did. -/
def memApartUptoRow : OpenClaim := { program := "ytpninapdjcggoaa", sum := "e97e2fc2f7085414f03212823fb2058d8af6b2b1bd4189e294bd70a99873823b", func := "croft/croftlaw2.MemApart", spec := "memApart", unfollowed := true, recurses := true, apart := false, narrowed := true }
def MemApartUptoSaid : Prop := memApartUptoRow.holds Try.pinned (OpenSpec.upto memApartSpec)

/-- 'crofttop.TopNames', WHERE WHAT IT READS IS OF BULK AT MOST 1048576: true; the input reads as it did. -/
def topNamesUptoRow : OpenClaim := { program := "ytpninapdjcggoaa", sum := "e97e2fc2f7085414f03212823fb2058d8af6b2b1bd4189e294bd70a99873823b", func := "croft/crofttop.TopNames", spec := "topNames", apart := false, narrowed := true }
def TopNamesUptoSaid : Prop := topNamesUptoRow.holds Try.pinned (OpenSpec.upto topNamesSpec)

end Rows
end Go.Proofs.Ytpninapdjcggoaa
