/-
  No cell of these rows narrows 'for every input' (looked for: loops, veiled, ifaces, maps, wideKeys, modest, calm, conditions, laid).
  DERIVED. THE GIVEN ROWS OF THIS SEAT. 10 by the template 'for every input the law returns true; each argument reads behind the call as it read before'; 0 by the template 'total and deterministic' (their statements: YtippbfnhgooepaaTotals.lean).
  GIVEN WITH THE SEED: the statements are not yours to turn. If you find one false, say at which input.
  Laid BY PROGRAM, IN A SANDBOX (cutbox-rows.mjs): the forced cells as the released guide's own fill.sh prints them over the translation 007d749cf0f1906c… (all of the seat's roots in one cut). By AI agents, Wed Nov 11 2026. No macro, syntax, notation, axiom, sorry.
-/
import Derived.Test.YtippbfnhgooepaaChecked
import GoSem.Claim
import GoSem.ClaimJoined
import GoSem.ClaimMapViews
import Derived.JoinedTies
import Derived.KernelRfl
namespace Go.Proofs.Ytippbfnhgooepaa
/- THE CELL 'sum', in the pinned program and in every row, IS THE sha256 OF THE DUMP (.gsa) THAT YtippbfnhgooepaaProg.lean LOADS. Nothing in Lean hashes anything: it is a label: what it is worth is what the hold of that sum in a sandbox is worth. -/
noncomputable def Try.pinned : Pinned := { name := "ytippbfnhgooepaa", sum := "007d749cf0f1906cc8cb423d9da30110886b61b51a563fe30a709052a1e15d3f", checked := Try.checked }
namespace Rows
def none {H : Type} : Left H := { results := [], args := [] }

/-- 'croftlaw6.RegionOpens': WHATEVER THE INPUT: true; the input reads as it did. -/
def regionOpensSpec : ChangeSpec := { name := "regionOpens", fn := fun _ => fun
  | [d1, d2, d3, d4, d5, d6] => { results := [.lit (.bool true)], args := [d1, d2, d3, d4, d5, d6] }
  | _ => none }
def regionOpensRow : OpenClaim := { program := "ytippbfnhgooepaa", sum := "007d749cf0f1906cc8cb423d9da30110886b61b51a563fe30a709052a1e15d3f", func := "croft/croftlaw6.RegionOpens", spec := "regionOpens", unfollowed := true, recurses := true, apart := false }
def RegionOpensSaid : Prop := regionOpensRow.holds Try.pinned (OpenSpec.ofChange regionOpensSpec)

/-- ITS FALSE NEIGHBOUR: 'it returns false'. Refute it at one input. -/
def regionOpensWrong : ChangeSpec := { name := "regionOpens", fn := fun _ => fun
  | [d1, d2, d3, d4, d5, d6] => { results := [.lit (.bool false)], args := [d1, d2, d3, d4, d5, d6] }
  | _ => none }
def RegionOpensWrongFalsely : Prop := regionOpensRow.holds Try.pinned (OpenSpec.ofChange regionOpensWrong)

/-- 'croftlaw6.RegionSame': WHATEVER THE INPUT: true; the input reads as it did. -/
def regionSameSpec : ChangeSpec := { name := "regionSame", fn := fun _ => fun
  | [d] => { results := [.lit (.bool true)], args := [d] }
  | _ => none }
def regionSameRow : OpenClaim := { program := "ytippbfnhgooepaa", sum := "007d749cf0f1906cc8cb423d9da30110886b61b51a563fe30a709052a1e15d3f", func := "croft/croftlaw6.RegionSame", spec := "regionSame", unfollowed := true, recurses := true, apart := false }
def RegionSameSaid : Prop := regionSameRow.holds Try.pinned (OpenSpec.ofChange regionSameSpec)

/-- ITS FALSE NEIGHBOUR: 'it returns false'. Refute it at one input. -/
def regionSameWrong : ChangeSpec := { name := "regionSame", fn := fun _ => fun
  | [d] => { results := [.lit (.bool false)], args := [d] }
  | _ => none }
def RegionSameWrongFalsely : Prop := regionSameRow.holds Try.pinned (OpenSpec.ofChange regionSameWrong)

/-- 'croftlaw6.RegionNews': WHATEVER THE INPUT: true; the input reads as it did. -/
def regionNewsSpec : ChangeSpec := { name := "regionNews", fn := fun _ => fun
  | [d] => { results := [.lit (.bool true)], args := [d] }
  | _ => none }
def regionNewsRow : OpenClaim := { program := "ytippbfnhgooepaa", sum := "007d749cf0f1906cc8cb423d9da30110886b61b51a563fe30a709052a1e15d3f", func := "croft/croftlaw6.RegionNews", spec := "regionNews", unfollowed := true, recurses := true, apart := false }
def RegionNewsSaid : Prop := regionNewsRow.holds Try.pinned (OpenSpec.ofChange regionNewsSpec)

/-- ITS FALSE NEIGHBOUR: 'it returns false'. Refute it at one input. -/
def regionNewsWrong : ChangeSpec := { name := "regionNews", fn := fun _ => fun
  | [d] => { results := [.lit (.bool false)], args := [d] }
  | _ => none }
def RegionNewsWrongFalsely : Prop := regionNewsRow.holds Try.pinned (OpenSpec.ofChange regionNewsWrong)

/-- 'croftlaw6.RegionExact': WHATEVER THE INPUT: true; the input reads as it did. -/
def regionExactSpec : ChangeSpec := { name := "regionExact", fn := fun _ => fun
  | [d1, d2, d3] => { results := [.lit (.bool true)], args := [d1, d2, d3] }
  | _ => none }
def regionExactRow : OpenClaim := { program := "ytippbfnhgooepaa", sum := "007d749cf0f1906cc8cb423d9da30110886b61b51a563fe30a709052a1e15d3f", func := "croft/croftlaw6.RegionExact", spec := "regionExact", unfollowed := true, recurses := true, apart := false }
def RegionExactSaid : Prop := regionExactRow.holds Try.pinned (OpenSpec.ofChange regionExactSpec)

/-- ITS FALSE NEIGHBOUR: 'it returns false'. Refute it at one input. -/
def regionExactWrong : ChangeSpec := { name := "regionExact", fn := fun _ => fun
  | [d1, d2, d3] => { results := [.lit (.bool false)], args := [d1, d2, d3] }
  | _ => none }
def RegionExactWrongFalsely : Prop := regionExactRow.holds Try.pinned (OpenSpec.ofChange regionExactWrong)

/-- 'croftlaw6.RegionKnown': WHATEVER THE INPUT: true; the input reads as it did. -/
def regionKnownSpec : ChangeSpec := { name := "regionKnown", fn := fun _ => fun
  | [] => { results := [.lit (.bool true)], args := [] }
  | _ => none }
def regionKnownRow : OpenClaim := { program := "ytippbfnhgooepaa", sum := "007d749cf0f1906cc8cb423d9da30110886b61b51a563fe30a709052a1e15d3f", func := "croft/croftlaw6.RegionKnown", spec := "regionKnown", unfollowed := true, recurses := true, apart := false }
def RegionKnownSaid : Prop := regionKnownRow.holds Try.pinned (OpenSpec.ofChange regionKnownSpec)

/-- ITS FALSE NEIGHBOUR: 'it returns false'. Refute it at one input. -/
def regionKnownWrong : ChangeSpec := { name := "regionKnown", fn := fun _ => fun
  | [] => { results := [.lit (.bool false)], args := [] }
  | _ => none }
def RegionKnownWrongFalsely : Prop := regionKnownRow.holds Try.pinned (OpenSpec.ofChange regionKnownWrong)

/-- 'croftlaw6.RegionRefused': WHATEVER THE INPUT: true; the input reads as it did. -/
def regionRefusedSpec : ChangeSpec := { name := "regionRefused", fn := fun _ => fun
  | [d1, d2] => { results := [.lit (.bool true)], args := [d1, d2] }
  | _ => none }
def regionRefusedRow : OpenClaim := { program := "ytippbfnhgooepaa", sum := "007d749cf0f1906cc8cb423d9da30110886b61b51a563fe30a709052a1e15d3f", func := "croft/croftlaw6.RegionRefused", spec := "regionRefused", unfollowed := true, recurses := true, apart := false }
def RegionRefusedSaid : Prop := regionRefusedRow.holds Try.pinned (OpenSpec.ofChange regionRefusedSpec)

/-- ITS FALSE NEIGHBOUR: 'it returns false'. Refute it at one input. -/
def regionRefusedWrong : ChangeSpec := { name := "regionRefused", fn := fun _ => fun
  | [d1, d2] => { results := [.lit (.bool false)], args := [d1, d2] }
  | _ => none }
def RegionRefusedWrongFalsely : Prop := regionRefusedRow.holds Try.pinned (OpenSpec.ofChange regionRefusedWrong)

/-- 'croftlaw6.RegionPlays': WHATEVER THE INPUT: true; the input reads as it did. -/
def regionPlaysSpec : ChangeSpec := { name := "regionPlays", fn := fun _ => fun
  | [d1, d2] => { results := [.lit (.bool true)], args := [d1, d2] }
  | _ => none }
def regionPlaysRow : OpenClaim := { program := "ytippbfnhgooepaa", sum := "007d749cf0f1906cc8cb423d9da30110886b61b51a563fe30a709052a1e15d3f", func := "croft/croftlaw6.RegionPlays", spec := "regionPlays", unfollowed := true, recurses := true, apart := false }
def RegionPlaysSaid : Prop := regionPlaysRow.holds Try.pinned (OpenSpec.ofChange regionPlaysSpec)

/-- ITS FALSE NEIGHBOUR: 'it returns false'. Refute it at one input. -/
def regionPlaysWrong : ChangeSpec := { name := "regionPlays", fn := fun _ => fun
  | [d1, d2] => { results := [.lit (.bool false)], args := [d1, d2] }
  | _ => none }
def RegionPlaysWrongFalsely : Prop := regionPlaysRow.holds Try.pinned (OpenSpec.ofChange regionPlaysWrong)

/-- 'croftlaw6.RegionGone': WHATEVER THE INPUT: true; the input reads as it did. -/
def regionGoneSpec : ChangeSpec := { name := "regionGone", fn := fun _ => fun
  | [d1, d2, d3, d4] => { results := [.lit (.bool true)], args := [d1, d2, d3, d4] }
  | _ => none }
def regionGoneRow : OpenClaim := { program := "ytippbfnhgooepaa", sum := "007d749cf0f1906cc8cb423d9da30110886b61b51a563fe30a709052a1e15d3f", func := "croft/croftlaw6.RegionGone", spec := "regionGone", unfollowed := true, recurses := true, apart := false }
def RegionGoneSaid : Prop := regionGoneRow.holds Try.pinned (OpenSpec.ofChange regionGoneSpec)

/-- ITS FALSE NEIGHBOUR: 'it returns false'. Refute it at one input. -/
def regionGoneWrong : ChangeSpec := { name := "regionGone", fn := fun _ => fun
  | [d1, d2, d3, d4] => { results := [.lit (.bool false)], args := [d1, d2, d3, d4] }
  | _ => none }
def RegionGoneWrongFalsely : Prop := regionGoneRow.holds Try.pinned (OpenSpec.ofChange regionGoneWrong)

/-- 'croftlaw6.RegionApart': WHATEVER THE INPUT: true; the input reads as it did. -/
def regionApartSpec : ChangeSpec := { name := "regionApart", fn := fun _ => fun
  | [d1, d2, d3] => { results := [.lit (.bool true)], args := [d1, d2, d3] }
  | _ => none }
def regionApartRow : OpenClaim := { program := "ytippbfnhgooepaa", sum := "007d749cf0f1906cc8cb423d9da30110886b61b51a563fe30a709052a1e15d3f", func := "croft/croftlaw6.RegionApart", spec := "regionApart", unfollowed := true, recurses := true, apart := false }
def RegionApartSaid : Prop := regionApartRow.holds Try.pinned (OpenSpec.ofChange regionApartSpec)

/-- ITS FALSE NEIGHBOUR: 'it returns false'. Refute it at one input. -/
def regionApartWrong : ChangeSpec := { name := "regionApart", fn := fun _ => fun
  | [d1, d2, d3] => { results := [.lit (.bool false)], args := [d1, d2, d3] }
  | _ => none }
def RegionApartWrongFalsely : Prop := regionApartRow.holds Try.pinned (OpenSpec.ofChange regionApartWrong)

/-- 'croftlaw6.RegionBack': WHATEVER THE INPUT: true; the input reads as it did. -/
def regionBackSpec : ChangeSpec := { name := "regionBack", fn := fun _ => fun
  | [d1, d2, d3] => { results := [.lit (.bool true)], args := [d1, d2, d3] }
  | _ => none }
def regionBackRow : OpenClaim := { program := "ytippbfnhgooepaa", sum := "007d749cf0f1906cc8cb423d9da30110886b61b51a563fe30a709052a1e15d3f", func := "croft/croftlaw6.RegionBack", spec := "regionBack", unfollowed := true, recurses := true, apart := false }
def RegionBackSaid : Prop := regionBackRow.holds Try.pinned (OpenSpec.ofChange regionBackSpec)

/-- ITS FALSE NEIGHBOUR: 'it returns false'. Refute it at one input. -/
def regionBackWrong : ChangeSpec := { name := "regionBack", fn := fun _ => fun
  | [d1, d2, d3] => { results := [.lit (.bool false)], args := [d1, d2, d3] }
  | _ => none }
def RegionBackWrongFalsely : Prop := regionBackRow.holds Try.pinned (OpenSpec.ofChange regionBackWrong)

/- THE SECOND FORM. 'bulk': how many values and letters a reading holds, each counted each time it is reached (what is shared counts as often as it is met; a slice's spare places count too). A statement '..UptoSaid' is the law's where the arguments, and the package variables that the reading takes, are together of bulk at most 1048576: NARROWER than '..Said'. Prove '..Said' where nothing that the law and all that it calls make is longer than what came in: it says more and counts as full. Else prove '..UptoSaid'. A law counts once. -/
mutual
def uptoBulk {H : Type} : DataW H → Nat
  | .lit (.string bytes) => bytes.length + 1
  | .lit _ => 1
  | .nil => 1
  | .ptr d => uptoBulk d + 1
  | .slice elems spare => uptoBulkAll elems + uptoBulkAll spare + 1
  | .agg parts => uptoBulkAll parts + 1
  | .iface _ d => uptoBulk d + 1
  | .map entries => uptoBulkEntries entries + 1
  | .held _ => 1
def uptoBulkAll {H : Type} : List (DataW H) → Nat
  | [] => 0
  | d :: r => uptoBulk d + uptoBulkAll r
def uptoBulkEntries {H : Type} : List (Lit × DataW H) → Nat
  | [] => 0
  | x :: r => uptoBulkEntry x + uptoBulkEntries r
def uptoBulkEntry {H : Type} : Lit × DataW H → Nat
  | (.string bytes, d) => bytes.length + uptoBulk d + 1
  | (_, d) => uptoBulk d + 1
 end
def uptoSmall : (H : Type) → List (DataW H) → Bool := fun _ ds => decide (uptoBulkAll ds ≤ 1048576)
def OpenSpec.upto (s : _root_.Go.ChangeSpec) : _root_.Go.OpenSpec := { _root_.Go.OpenSpec.ofChange s with cond := some uptoSmall }

/-- 'croftlaw6.RegionOpens', WHERE WHAT IT READS IS OF BULK AT MOST 1048576: true; the input reads as it did. -/
def regionOpensUptoRow : OpenClaim := { program := "ytippbfnhgooepaa", sum := "007d749cf0f1906cc8cb423d9da30110886b61b51a563fe30a709052a1e15d3f", func := "croft/croftlaw6.RegionOpens", spec := "regionOpens", unfollowed := true, recurses := true, apart := false, narrowed := true }
def RegionOpensUptoSaid : Prop := regionOpensUptoRow.holds Try.pinned (OpenSpec.upto regionOpensSpec)

/-- 'croftlaw6.RegionSame', WHERE WHAT IT READS IS OF BULK AT MOST 1048576: true; the input reads as it did. -/
def regionSameUptoRow : OpenClaim := { program := "ytippbfnhgooepaa", sum := "007d749cf0f1906cc8cb423d9da30110886b61b51a563fe30a709052a1e15d3f", func := "croft/croftlaw6.RegionSame", spec := "regionSame", unfollowed := true, recurses := true, apart := false, narrowed := true }
def RegionSameUptoSaid : Prop := regionSameUptoRow.holds Try.pinned (OpenSpec.upto regionSameSpec)

/-- 'croftlaw6.RegionNews', WHERE WHAT IT READS IS OF BULK AT MOST 1048576: true; the input reads as it did. -/
def regionNewsUptoRow : OpenClaim := { program := "ytippbfnhgooepaa", sum := "007d749cf0f1906cc8cb423d9da30110886b61b51a563fe30a709052a1e15d3f", func := "croft/croftlaw6.RegionNews", spec := "regionNews", unfollowed := true, recurses := true, apart := false, narrowed := true }
def RegionNewsUptoSaid : Prop := regionNewsUptoRow.holds Try.pinned (OpenSpec.upto regionNewsSpec)

/-- 'croftlaw6.RegionExact', WHERE WHAT IT READS IS OF BULK AT MOST 1048576: true; the input reads as it did. -/
def regionExactUptoRow : OpenClaim := { program := "ytippbfnhgooepaa", sum := "007d749cf0f1906cc8cb423d9da30110886b61b51a563fe30a709052a1e15d3f", func := "croft/croftlaw6.RegionExact", spec := "regionExact", unfollowed := true, recurses := true, apart := false, narrowed := true }
def RegionExactUptoSaid : Prop := regionExactUptoRow.holds Try.pinned (OpenSpec.upto regionExactSpec)

/-- 'croftlaw6.RegionKnown', WHERE WHAT IT READS IS OF BULK AT MOST 1048576: true; the input reads as it did. -/
def regionKnownUptoRow : OpenClaim := { program := "ytippbfnhgooepaa", sum := "007d749cf0f1906cc8cb423d9da30110886b61b51a563fe30a709052a1e15d3f", func := "croft/croftlaw6.RegionKnown", spec := "regionKnown", unfollowed := true, recurses := true, apart := false, narrowed := true }
def RegionKnownUptoSaid : Prop := regionKnownUptoRow.holds Try.pinned (OpenSpec.upto regionKnownSpec)

/-- 'croftlaw6.RegionRefused', WHERE WHAT IT READS IS OF BULK AT MOST 1048576: true; the input reads as it did. -/
def regionRefusedUptoRow : OpenClaim := { program := "ytippbfnhgooepaa", sum := "007d749cf0f1906cc8cb423d9da30110886b61b51a563fe30a709052a1e15d3f", func := "croft/croftlaw6.RegionRefused", spec := "regionRefused", unfollowed := true, recurses := true, apart := false, narrowed := true }
def RegionRefusedUptoSaid : Prop := regionRefusedUptoRow.holds Try.pinned (OpenSpec.upto regionRefusedSpec)

/-- 'croftlaw6.RegionPlays', WHERE WHAT IT READS IS OF BULK AT MOST 1048576: true; the input reads as it did. -/
def regionPlaysUptoRow : OpenClaim := { program := "ytippbfnhgooepaa", sum := "007d749cf0f1906cc8cb423d9da30110886b61b51a563fe30a709052a1e15d3f", func := "croft/croftlaw6.RegionPlays", spec := "regionPlays", unfollowed := true, recurses := true, apart := false, narrowed := true }
def RegionPlaysUptoSaid : Prop := regionPlaysUptoRow.holds Try.pinned (OpenSpec.upto regionPlaysSpec)

/-- 'croftlaw6.RegionGone', WHERE WHAT IT READS IS OF BULK AT MOST 1048576: true; the input reads as it did. -/
def regionGoneUptoRow : OpenClaim := { program := "ytippbfnhgooepaa", sum := "007d749cf0f1906cc8cb423d9da30110886b61b51a563fe30a709052a1e15d3f", func := "croft/croftlaw6.RegionGone", spec := "regionGone", unfollowed := true, recurses := true, apart := false, narrowed := true }
def RegionGoneUptoSaid : Prop := regionGoneUptoRow.holds Try.pinned (OpenSpec.upto regionGoneSpec)

/-- 'croftlaw6.RegionApart', WHERE WHAT IT READS IS OF BULK AT MOST 1048576: true; the input reads as it did. -/
def regionApartUptoRow : OpenClaim := { program := "ytippbfnhgooepaa", sum := "007d749cf0f1906cc8cb423d9da30110886b61b51a563fe30a709052a1e15d3f", func := "croft/croftlaw6.RegionApart", spec := "regionApart", unfollowed := true, recurses := true, apart := false, narrowed := true }
def RegionApartUptoSaid : Prop := regionApartUptoRow.holds Try.pinned (OpenSpec.upto regionApartSpec)

/-- 'croftlaw6.RegionBack', WHERE WHAT IT READS IS OF BULK AT MOST 1048576: true; the input reads as it did. -/
def regionBackUptoRow : OpenClaim := { program := "ytippbfnhgooepaa", sum := "007d749cf0f1906cc8cb423d9da30110886b61b51a563fe30a709052a1e15d3f", func := "croft/croftlaw6.RegionBack", spec := "regionBack", unfollowed := true, recurses := true, apart := false, narrowed := true }
def RegionBackUptoSaid : Prop := regionBackUptoRow.holds Try.pinned (OpenSpec.upto regionBackSpec)

end Rows
end Go.Proofs.Ytippbfnhgooepaa
