/-
  No cell of these rows narrows 'for every input' (looked for: loops, veiled, ifaces, maps, wideKeys, modest, calm, conditions, laid).
  DERIVED. THE GIVEN ROWS OF THIS SEAT. 10 by the template 'for every input the law returns true; each argument reads behind the call as it read before'; 0 by the template 'total and deterministic' (their statements: YtnplkinakaepdaaTotals.lean).
  GIVEN WITH THE SEED: the statements are not yours to turn. If you find one false, say at which input.
  Laid BY PROGRAM, IN A SANDBOX (cutbox-rows.mjs): the forced cells as the released guide's own fill.sh prints them over the translation b61e930c28e17d32… (all of the seat's roots in one cut). By AI agents, Wed Nov 11 2026. No macro, syntax, notation, axiom, sorry.
-/
import Derived.Test.YtnplkinakaepdaaChecked
import GoSem.Claim
import GoSem.ClaimJoined
import GoSem.ClaimMapViews
import Derived.JoinedTies
import Derived.KernelRfl
namespace Go.Proofs.Ytnplkinakaepdaa
/- THE CELL 'sum', in the pinned program and in every row, IS THE sha256 OF THE DUMP (.gsa) THAT YtnplkinakaepdaaProg.lean LOADS. Nothing in Lean hashes anything: it is a label: what it is worth is what the hold of that sum in a sandbox is worth. -/
noncomputable def Try.pinned : Pinned := { name := "ytnplkinakaepdaa", sum := "b61e930c28e17d320817bccb5f29baf8cc9ee5f10e9379568000fa48a52b839e", checked := Try.checked }
namespace Rows
def none {H : Type} : Left H := { results := [], args := [] }

/-- 'croftlaw4.PagePairs': WHATEVER THE INPUT: true; the input reads as it did. -/
def pagePairsSpec : ChangeSpec := { name := "pagePairs", fn := fun _ => fun
  | [d1, d2, d3] => { results := [.lit (.bool true)], args := [d1, d2, d3] }
  | _ => none }
def pagePairsRow : OpenClaim := { program := "ytnplkinakaepdaa", sum := "b61e930c28e17d320817bccb5f29baf8cc9ee5f10e9379568000fa48a52b839e", func := "croft/croftlaw4.PagePairs", spec := "pagePairs", apart := false }
def PagePairsSaid : Prop := pagePairsRow.holds Try.pinned (OpenSpec.ofChange pagePairsSpec)

/-- ITS FALSE NEIGHBOUR: 'it returns false'. Refute it at one input. -/
def pagePairsWrong : ChangeSpec := { name := "pagePairs", fn := fun _ => fun
  | [d1, d2, d3] => { results := [.lit (.bool false)], args := [d1, d2, d3] }
  | _ => none }
def PagePairsWrongFalsely : Prop := pagePairsRow.holds Try.pinned (OpenSpec.ofChange pagePairsWrong)

/-- 'croftlaw4.PageCells': WHATEVER THE INPUT: true; the input reads as it did. -/
def pageCellsSpec : ChangeSpec := { name := "pageCells", fn := fun _ => fun
  | [d1, d2] => { results := [.lit (.bool true)], args := [d1, d2] }
  | _ => none }
def pageCellsRow : OpenClaim := { program := "ytnplkinakaepdaa", sum := "b61e930c28e17d320817bccb5f29baf8cc9ee5f10e9379568000fa48a52b839e", func := "croft/croftlaw4.PageCells", spec := "pageCells", apart := false }
def PageCellsSaid : Prop := pageCellsRow.holds Try.pinned (OpenSpec.ofChange pageCellsSpec)

/-- ITS FALSE NEIGHBOUR: 'it returns false'. Refute it at one input. -/
def pageCellsWrong : ChangeSpec := { name := "pageCells", fn := fun _ => fun
  | [d1, d2] => { results := [.lit (.bool false)], args := [d1, d2] }
  | _ => none }
def PageCellsWrongFalsely : Prop := pageCellsRow.holds Try.pinned (OpenSpec.ofChange pageCellsWrong)

/-- 'croftlaw4.PageBack': WHATEVER THE INPUT: true; the input reads as it did. -/
def pageBackSpec : ChangeSpec := { name := "pageBack", fn := fun _ => fun
  | [d1, d2, d3] => { results := [.lit (.bool true)], args := [d1, d2, d3] }
  | _ => none }
def pageBackRow : OpenClaim := { program := "ytnplkinakaepdaa", sum := "b61e930c28e17d320817bccb5f29baf8cc9ee5f10e9379568000fa48a52b839e", func := "croft/croftlaw4.PageBack", spec := "pageBack", apart := false }
def PageBackSaid : Prop := pageBackRow.holds Try.pinned (OpenSpec.ofChange pageBackSpec)

/-- ITS FALSE NEIGHBOUR: 'it returns false'. Refute it at one input. -/
def pageBackWrong : ChangeSpec := { name := "pageBack", fn := fun _ => fun
  | [d1, d2, d3] => { results := [.lit (.bool false)], args := [d1, d2, d3] }
  | _ => none }
def PageBackWrongFalsely : Prop := pageBackRow.holds Try.pinned (OpenSpec.ofChange pageBackWrong)

/-- 'croftlaw4.PageAlone': WHATEVER THE INPUT: true; the input reads as it did. -/
def pageAloneSpec : ChangeSpec := { name := "pageAlone", fn := fun _ => fun
  | [d1, d2, d3] => { results := [.lit (.bool true)], args := [d1, d2, d3] }
  | _ => none }
def pageAloneRow : OpenClaim := { program := "ytnplkinakaepdaa", sum := "b61e930c28e17d320817bccb5f29baf8cc9ee5f10e9379568000fa48a52b839e", func := "croft/croftlaw4.PageAlone", spec := "pageAlone", apart := false }
def PageAloneSaid : Prop := pageAloneRow.holds Try.pinned (OpenSpec.ofChange pageAloneSpec)

/-- ITS FALSE NEIGHBOUR: 'it returns false'. Refute it at one input. -/
def pageAloneWrong : ChangeSpec := { name := "pageAlone", fn := fun _ => fun
  | [d1, d2, d3] => { results := [.lit (.bool false)], args := [d1, d2, d3] }
  | _ => none }
def PageAloneWrongFalsely : Prop := pageAloneRow.holds Try.pinned (OpenSpec.ofChange pageAloneWrong)

/-- 'croftlaw4.PageKept': WHATEVER THE INPUT: true; the input reads as it did. -/
def pageKeptSpec : ChangeSpec := { name := "pageKept", fn := fun _ => fun
  | [d1, d2] => { results := [.lit (.bool true)], args := [d1, d2] }
  | _ => none }
def pageKeptRow : OpenClaim := { program := "ytnplkinakaepdaa", sum := "b61e930c28e17d320817bccb5f29baf8cc9ee5f10e9379568000fa48a52b839e", func := "croft/croftlaw4.PageKept", spec := "pageKept", apart := false }
def PageKeptSaid : Prop := pageKeptRow.holds Try.pinned (OpenSpec.ofChange pageKeptSpec)

/-- ITS FALSE NEIGHBOUR: 'it returns false'. Refute it at one input. -/
def pageKeptWrong : ChangeSpec := { name := "pageKept", fn := fun _ => fun
  | [d1, d2] => { results := [.lit (.bool false)], args := [d1, d2] }
  | _ => none }
def PageKeptWrongFalsely : Prop := pageKeptRow.holds Try.pinned (OpenSpec.ofChange pageKeptWrong)

/-- 'croftlaw4.PageHeads': WHATEVER THE INPUT: true; the input reads as it did. -/
def pageHeadsSpec : ChangeSpec := { name := "pageHeads", fn := fun _ => fun
  | [d1, d2] => { results := [.lit (.bool true)], args := [d1, d2] }
  | _ => none }
def pageHeadsRow : OpenClaim := { program := "ytnplkinakaepdaa", sum := "b61e930c28e17d320817bccb5f29baf8cc9ee5f10e9379568000fa48a52b839e", func := "croft/croftlaw4.PageHeads", spec := "pageHeads", apart := false }
def PageHeadsSaid : Prop := pageHeadsRow.holds Try.pinned (OpenSpec.ofChange pageHeadsSpec)

/-- ITS FALSE NEIGHBOUR: 'it returns false'. Refute it at one input. -/
def pageHeadsWrong : ChangeSpec := { name := "pageHeads", fn := fun _ => fun
  | [d1, d2] => { results := [.lit (.bool false)], args := [d1, d2] }
  | _ => none }
def PageHeadsWrongFalsely : Prop := pageHeadsRow.holds Try.pinned (OpenSpec.ofChange pageHeadsWrong)

/-- 'croftlaw4.PageKnown': WHATEVER THE INPUT: true; the input reads as it did. -/
def pageKnownSpec : ChangeSpec := { name := "pageKnown", fn := fun _ => fun
  | [] => { results := [.lit (.bool true)], args := [] }
  | _ => none }
def pageKnownRow : OpenClaim := { program := "ytnplkinakaepdaa", sum := "b61e930c28e17d320817bccb5f29baf8cc9ee5f10e9379568000fa48a52b839e", func := "croft/croftlaw4.PageKnown", spec := "pageKnown", apart := false }
def PageKnownSaid : Prop := pageKnownRow.holds Try.pinned (OpenSpec.ofChange pageKnownSpec)

/-- ITS FALSE NEIGHBOUR: 'it returns false'. Refute it at one input. -/
def pageKnownWrong : ChangeSpec := { name := "pageKnown", fn := fun _ => fun
  | [] => { results := [.lit (.bool false)], args := [] }
  | _ => none }
def PageKnownWrongFalsely : Prop := pageKnownRow.holds Try.pinned (OpenSpec.ofChange pageKnownWrong)

/-- 'croftlaw4.PagePlays': WHATEVER THE INPUT: true; the input reads as it did. -/
def pagePlaysSpec : ChangeSpec := { name := "pagePlays", fn := fun _ => fun
  | [d1, d2] => { results := [.lit (.bool true)], args := [d1, d2] }
  | _ => none }
def pagePlaysRow : OpenClaim := { program := "ytnplkinakaepdaa", sum := "b61e930c28e17d320817bccb5f29baf8cc9ee5f10e9379568000fa48a52b839e", func := "croft/croftlaw4.PagePlays", spec := "pagePlays", apart := false }
def PagePlaysSaid : Prop := pagePlaysRow.holds Try.pinned (OpenSpec.ofChange pagePlaysSpec)

/-- ITS FALSE NEIGHBOUR: 'it returns false'. Refute it at one input. -/
def pagePlaysWrong : ChangeSpec := { name := "pagePlays", fn := fun _ => fun
  | [d1, d2] => { results := [.lit (.bool false)], args := [d1, d2] }
  | _ => none }
def PagePlaysWrongFalsely : Prop := pagePlaysRow.holds Try.pinned (OpenSpec.ofChange pagePlaysWrong)

/-- 'croftlaw4.PageOpens': WHATEVER THE INPUT: true; the input reads as it did. -/
def pageOpensSpec : ChangeSpec := { name := "pageOpens", fn := fun _ => fun
  | [d1, d2, d3, d4] => { results := [.lit (.bool true)], args := [d1, d2, d3, d4] }
  | _ => none }
def pageOpensRow : OpenClaim := { program := "ytnplkinakaepdaa", sum := "b61e930c28e17d320817bccb5f29baf8cc9ee5f10e9379568000fa48a52b839e", func := "croft/croftlaw4.PageOpens", spec := "pageOpens", apart := false }
def PageOpensSaid : Prop := pageOpensRow.holds Try.pinned (OpenSpec.ofChange pageOpensSpec)

/-- ITS FALSE NEIGHBOUR: 'it returns false'. Refute it at one input. -/
def pageOpensWrong : ChangeSpec := { name := "pageOpens", fn := fun _ => fun
  | [d1, d2, d3, d4] => { results := [.lit (.bool false)], args := [d1, d2, d3, d4] }
  | _ => none }
def PageOpensWrongFalsely : Prop := pageOpensRow.holds Try.pinned (OpenSpec.ofChange pageOpensWrong)

/-- 'croftlaw4.PageApart': WHATEVER THE INPUT: true; the input reads as it did. -/
def pageApartSpec : ChangeSpec := { name := "pageApart", fn := fun _ => fun
  | [d1, d2, d3] => { results := [.lit (.bool true)], args := [d1, d2, d3] }
  | _ => none }
def pageApartRow : OpenClaim := { program := "ytnplkinakaepdaa", sum := "b61e930c28e17d320817bccb5f29baf8cc9ee5f10e9379568000fa48a52b839e", func := "croft/croftlaw4.PageApart", spec := "pageApart", apart := false }
def PageApartSaid : Prop := pageApartRow.holds Try.pinned (OpenSpec.ofChange pageApartSpec)

/-- ITS FALSE NEIGHBOUR: 'it returns false'. Refute it at one input. -/
def pageApartWrong : ChangeSpec := { name := "pageApart", fn := fun _ => fun
  | [d1, d2, d3] => { results := [.lit (.bool false)], args := [d1, d2, d3] }
  | _ => none }
def PageApartWrongFalsely : Prop := pageApartRow.holds Try.pinned (OpenSpec.ofChange pageApartWrong)

/- THE SECOND FORM. 'bulk': how many values and letters a reading holds, each counted each time it is reached (what is shared counts as often as it is met; a slice's spare places count too). A statement '..UptoSaid' is the law's where the arguments, and the package variables that the reading takes, are together of bulk at most 1048576: NARROWER than '..Said'. Prove '..Said' where nothing that the law and all that it calls make is longer than what came in: it says more and counts as full. Else prove '..UptoSaid'. A law counts once. -/
mutual
def uptoBulk {H : Type} : DataW H → Nat
  | .lit (.string bytes) => bytes.length + 1
  | .lit _ => 1
  | .nil => 1
  | .ptr d => uptoBulk d + 1
  | .slice elems spare => uptoBulkAll elems + uptoBulkAll spare + 1
  | .agg parts => uptoBulkAll parts + 1
  | .iface _ d => uptoBulk d + 1
  | .map entries => uptoBulkEntries entries + 1
  | .held _ => 1
def uptoBulkAll {H : Type} : List (DataW H) → Nat
  | [] => 0
  | d :: r => uptoBulk d + uptoBulkAll r
def uptoBulkEntries {H : Type} : List (Lit × DataW H) → Nat
  | [] => 0
  | x :: r => uptoBulkEntry x + uptoBulkEntries r
def uptoBulkEntry {H : Type} : Lit × DataW H → Nat
  | (.string bytes, d) => bytes.length + uptoBulk d + 1
  | (_, d) => uptoBulk d + 1
 end
def uptoSmall : (H : Type) → List (DataW H) → Bool := fun _ ds => decide (uptoBulkAll ds ≤ 1048576)
def OpenSpec.upto (s : _root_.Go.ChangeSpec) : _root_.Go.OpenSpec := { _root_.Go.OpenSpec.ofChange s with cond := some uptoSmall }

/-- 'croftlaw4.PagePairs', WHERE WHAT IT READS IS OF BULK AT MOST 1048576: true; the input reads as it did. -/
def pagePairsUptoRow : OpenClaim := { program := "ytnplkinakaepdaa", sum := "b61e930c28e17d320817bccb5f29baf8cc9ee5f10e9379568000fa48a52b839e", func := "croft/croftlaw4.PagePairs", spec := "pagePairs", apart := false, narrowed := true }
def PagePairsUptoSaid : Prop := pagePairsUptoRow.holds Try.pinned (OpenSpec.upto pagePairsSpec)

/-- 'croftlaw4.PageCells', WHERE WHAT IT READS IS OF BULK AT MOST 1048576: true; the input reads as it did. -/
def pageCellsUptoRow : OpenClaim := { program := "ytnplkinakaepdaa", sum := "b61e930c28e17d320817bccb5f29baf8cc9ee5f10e9379568000fa48a52b839e", func := "croft/croftlaw4.PageCells", spec := "pageCells", apart := false, narrowed := true }
def PageCellsUptoSaid : Prop := pageCellsUptoRow.holds Try.pinned (OpenSpec.upto pageCellsSpec)

/-- 'croftlaw4.PageBack', WHERE WHAT IT READS IS OF BULK AT MOST 1048576: true; the input reads as it did. -/
def pageBackUptoRow : OpenClaim := { program := "ytnplkinakaepdaa", sum := "b61e930c28e17d320817bccb5f29baf8cc9ee5f10e9379568000fa48a52b839e", func := "croft/croftlaw4.PageBack", spec := "pageBack", apart := false, narrowed := true }
def PageBackUptoSaid : Prop := pageBackUptoRow.holds Try.pinned (OpenSpec.upto pageBackSpec)

/-- 'croftlaw4.PageAlone', WHERE WHAT IT READS IS OF BULK AT MOST 1048576: true; the input reads as it did. -/
def pageAloneUptoRow : OpenClaim := { program := "ytnplkinakaepdaa", sum := "b61e930c28e17d320817bccb5f29baf8cc9ee5f10e9379568000fa48a52b839e", func := "croft/croftlaw4.PageAlone", spec := "pageAlone", apart := false, narrowed := true }
def PageAloneUptoSaid : Prop := pageAloneUptoRow.holds Try.pinned (OpenSpec.upto pageAloneSpec)

/-- 'croftlaw4.PageKept', WHERE WHAT IT READS IS OF BULK AT MOST 1048576: true; the input reads as it did. -/
def pageKeptUptoRow : OpenClaim := { program := "ytnplkinakaepdaa", sum := "b61e930c28e17d320817bccb5f29baf8cc9ee5f10e9379568000fa48a52b839e", func := "croft/croftlaw4.PageKept", spec := "pageKept", apart := false, narrowed := true }
def PageKeptUptoSaid : Prop := pageKeptUptoRow.holds Try.pinned (OpenSpec.upto pageKeptSpec)

/-- 'croftlaw4.PageHeads', WHERE WHAT IT READS IS OF BULK AT MOST 1048576: true; the input reads as it did. -/
def pageHeadsUptoRow : OpenClaim := { program := "ytnplkinakaepdaa", sum := "b61e930c28e17d320817bccb5f29baf8cc9ee5f10e9379568000fa48a52b839e", func := "croft/croftlaw4.PageHeads", spec := "pageHeads", apart := false, narrowed := true }
def PageHeadsUptoSaid : Prop := pageHeadsUptoRow.holds Try.pinned (OpenSpec.upto pageHeadsSpec)

/-- 'croftlaw4.PageKnown', WHERE WHAT IT READS IS OF BULK AT MOST 1048576: true; the input reads as it did. -/
def pageKnownUptoRow : OpenClaim := { program := "ytnplkinakaepdaa", sum := "b61e930c28e17d320817bccb5f29baf8cc9ee5f10e9379568000fa48a52b839e", func := "croft/croftlaw4.PageKnown", spec := "pageKnown", apart := false, narrowed := true }
def PageKnownUptoSaid : Prop := pageKnownUptoRow.holds Try.pinned (OpenSpec.upto pageKnownSpec)

/-- 'croftlaw4.PagePlays', WHERE WHAT IT READS IS OF BULK AT MOST 1048576: true; the input reads as it did. -/
def pagePlaysUptoRow : OpenClaim := { program := "ytnplkinakaepdaa", sum := "b61e930c28e17d320817bccb5f29baf8cc9ee5f10e9379568000fa48a52b839e", func := "croft/croftlaw4.PagePlays", spec := "pagePlays", apart := false, narrowed := true }
def PagePlaysUptoSaid : Prop := pagePlaysUptoRow.holds Try.pinned (OpenSpec.upto pagePlaysSpec)

/-- 'croftlaw4.PageOpens', WHERE WHAT IT READS IS OF BULK AT MOST 1048576: true; the input reads as it did. -/
def pageOpensUptoRow : OpenClaim := { program := "ytnplkinakaepdaa", sum := "b61e930c28e17d320817bccb5f29baf8cc9ee5f10e9379568000fa48a52b839e", func := "croft/croftlaw4.PageOpens", spec := "pageOpens", apart := false, narrowed := true }
def PageOpensUptoSaid : Prop := pageOpensUptoRow.holds Try.pinned (OpenSpec.upto pageOpensSpec)

/-- 'croftlaw4.PageApart', WHERE WHAT IT READS IS OF BULK AT MOST 1048576: true; the input reads as it did. -/
def pageApartUptoRow : OpenClaim := { program := "ytnplkinakaepdaa", sum := "b61e930c28e17d320817bccb5f29baf8cc9ee5f10e9379568000fa48a52b839e", func := "croft/croftlaw4.PageApart", spec := "pageApart", apart := false, narrowed := true }
def PageApartUptoSaid : Prop := pageApartUptoRow.holds Try.pinned (OpenSpec.upto pageApartSpec)

end Rows
end Go.Proofs.Ytnplkinakaepdaa
