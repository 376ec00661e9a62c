/-
  No cell of these rows narrows 'for every input' (looked for: loops, veiled, ifaces, maps, wideKeys, modest, calm, conditions, laid).
  DERIVED. THE GIVEN ROWS OF THIS SEAT. 6 by the template 'for every input the law returns true; each argument reads behind the call as it read before'; 0 by the template 'total and deterministic' (their statements: YtefnddhondbjbaaTotals.lean).
  GIVEN WITH THE SEED: the statements are not yours to turn. If you find one false, say at which input.
  Laid BY PROGRAM, IN A SANDBOX (cutbox-rows.mjs): the forced cells as the released guide's own fill.sh prints them over the translation 77b9efb5a969b267… (all of the seat's roots in one cut). By AI agents, Wed Nov 11 2026. No macro, syntax, notation, axiom, sorry.
-/
import Derived.Test.YtefnddhondbjbaaChecked
import GoSem.Claim
import GoSem.ClaimJoined
import GoSem.ClaimMapViews
import Derived.JoinedTies
import Derived.KernelRfl
namespace Go.Proofs.Ytefnddhondbjbaa
/- THE CELL 'sum', in the pinned program and in every row, IS THE sha256 OF THE DUMP (.gsa) THAT YtefnddhondbjbaaProg.lean LOADS. Nothing in Lean hashes anything: it is a label: what it is worth is what the hold of that sum in a sandbox is worth. -/
noncomputable def Try.pinned : Pinned := { name := "ytefnddhondbjbaa", sum := "77b9efb5a969b26772080a4238060a71437889e2f5b8fb24e57485f67cd6542b", checked := Try.checked }
namespace Rows
def none {H : Type} : Left H := { results := [], args := [] }

/-- 'codexlaw13.DictPacks': WHATEVER THE INPUT: true; the input reads as it did. -/
def dictPacksSpec : ChangeSpec := { name := "dictPacks", fn := fun _ => fun
  | [d] => { results := [.lit (.bool true)], args := [d] }
  | _ => none }
def dictPacksRow : OpenClaim := { program := "ytefnddhondbjbaa", sum := "77b9efb5a969b26772080a4238060a71437889e2f5b8fb24e57485f67cd6542b", func := "codex/codexlaw13.DictPacks", spec := "dictPacks", inPlace := ["internal/abi.NoEscape"], unfollowed := true, recurses := true, apart := false }
def DictPacksSaid : Prop := dictPacksRow.holds Try.pinned (OpenSpec.ofChange dictPacksSpec)

/-- ITS FALSE NEIGHBOUR: 'it returns false'. Refute it at one input. -/
def dictPacksWrong : ChangeSpec := { name := "dictPacks", fn := fun _ => fun
  | [d] => { results := [.lit (.bool false)], args := [d] }
  | _ => none }
def DictPacksWrongFalsely : Prop := dictPacksRow.holds Try.pinned (OpenSpec.ofChange dictPacksWrong)

/-- 'codexlaw13.DictFinds': WHATEVER THE INPUT: true; the input reads as it did. -/
def dictFindsSpec : ChangeSpec := { name := "dictFinds", fn := fun _ => fun
  | [d1, d2, d3, d4] => { results := [.lit (.bool true)], args := [d1, d2, d3, d4] }
  | _ => none }
def dictFindsRow : OpenClaim := { program := "ytefnddhondbjbaa", sum := "77b9efb5a969b26772080a4238060a71437889e2f5b8fb24e57485f67cd6542b", func := "codex/codexlaw13.DictFinds", spec := "dictFinds", inPlace := ["internal/abi.NoEscape"], unfollowed := true, recurses := true, apart := false }
def DictFindsSaid : Prop := dictFindsRow.holds Try.pinned (OpenSpec.ofChange dictFindsSpec)

/-- ITS FALSE NEIGHBOUR: 'it returns false'. Refute it at one input. -/
def dictFindsWrong : ChangeSpec := { name := "dictFinds", fn := fun _ => fun
  | [d1, d2, d3, d4] => { results := [.lit (.bool false)], args := [d1, d2, d3, d4] }
  | _ => none }
def DictFindsWrongFalsely : Prop := dictFindsRow.holds Try.pinned (OpenSpec.ofChange dictFindsWrong)

/-- 'codexlaw13.DictPrefixes': WHATEVER THE INPUT: true; the input reads as it did. -/
def dictPrefixesSpec : ChangeSpec := { name := "dictPrefixes", fn := fun _ => fun
  | [d1, d2, d3] => { results := [.lit (.bool true)], args := [d1, d2, d3] }
  | _ => none }
def dictPrefixesRow : OpenClaim := { program := "ytefnddhondbjbaa", sum := "77b9efb5a969b26772080a4238060a71437889e2f5b8fb24e57485f67cd6542b", func := "codex/codexlaw13.DictPrefixes", spec := "dictPrefixes", inPlace := ["internal/abi.NoEscape"], unfollowed := true, recurses := true, apart := false }
def DictPrefixesSaid : Prop := dictPrefixesRow.holds Try.pinned (OpenSpec.ofChange dictPrefixesSpec)

/-- ITS FALSE NEIGHBOUR: 'it returns false'. Refute it at one input. -/
def dictPrefixesWrong : ChangeSpec := { name := "dictPrefixes", fn := fun _ => fun
  | [d1, d2, d3] => { results := [.lit (.bool false)], args := [d1, d2, d3] }
  | _ => none }
def DictPrefixesWrongFalsely : Prop := dictPrefixesRow.holds Try.pinned (OpenSpec.ofChange dictPrefixesWrong)

/-- 'codexlaw13.DictValues': WHATEVER THE INPUT: true; the input reads as it did. -/
def dictValuesSpec : ChangeSpec := { name := "dictValues", fn := fun _ => fun
  | [d1, d2, d3] => { results := [.lit (.bool true)], args := [d1, d2, d3] }
  | _ => none }
def dictValuesRow : OpenClaim := { program := "ytefnddhondbjbaa", sum := "77b9efb5a969b26772080a4238060a71437889e2f5b8fb24e57485f67cd6542b", func := "codex/codexlaw13.DictValues", spec := "dictValues", inPlace := ["internal/abi.NoEscape"], unfollowed := true, recurses := true, apart := false }
def DictValuesSaid : Prop := dictValuesRow.holds Try.pinned (OpenSpec.ofChange dictValuesSpec)

/-- ITS FALSE NEIGHBOUR: 'it returns false'. Refute it at one input. -/
def dictValuesWrong : ChangeSpec := { name := "dictValues", fn := fun _ => fun
  | [d1, d2, d3] => { results := [.lit (.bool false)], args := [d1, d2, d3] }
  | _ => none }
def DictValuesWrongFalsely : Prop := dictValuesRow.holds Try.pinned (OpenSpec.ofChange dictValuesWrong)

/-- 'codexlaw13.DictReads': WHATEVER THE INPUT: true; the input reads as it did. -/
def dictReadsSpec : ChangeSpec := { name := "dictReads", fn := fun _ => fun
  | [d1, d2, d3, d4] => { results := [.lit (.bool true)], args := [d1, d2, d3, d4] }
  | _ => none }
def dictReadsRow : OpenClaim := { program := "ytefnddhondbjbaa", sum := "77b9efb5a969b26772080a4238060a71437889e2f5b8fb24e57485f67cd6542b", func := "codex/codexlaw13.DictReads", spec := "dictReads", inPlace := ["internal/abi.NoEscape"], unfollowed := true, recurses := true, apart := false }
def DictReadsSaid : Prop := dictReadsRow.holds Try.pinned (OpenSpec.ofChange dictReadsSpec)

/-- ITS FALSE NEIGHBOUR: 'it returns false'. Refute it at one input. -/
def dictReadsWrong : ChangeSpec := { name := "dictReads", fn := fun _ => fun
  | [d1, d2, d3, d4] => { results := [.lit (.bool false)], args := [d1, d2, d3, d4] }
  | _ => none }
def DictReadsWrongFalsely : Prop := dictReadsRow.holds Try.pinned (OpenSpec.ofChange dictReadsWrong)

/-- 'codexlaw13.DictBack': WHATEVER THE INPUT: true; the input reads as it did. -/
def dictBackSpec : ChangeSpec := { name := "dictBack", fn := fun _ => fun
  | [d1, d2] => { results := [.lit (.bool true)], args := [d1, d2] }
  | _ => none }
def dictBackRow : OpenClaim := { program := "ytefnddhondbjbaa", sum := "77b9efb5a969b26772080a4238060a71437889e2f5b8fb24e57485f67cd6542b", func := "codex/codexlaw13.DictBack", spec := "dictBack", inPlace := ["internal/abi.NoEscape"], unfollowed := true, recurses := true, apart := false }
def DictBackSaid : Prop := dictBackRow.holds Try.pinned (OpenSpec.ofChange dictBackSpec)

/-- ITS FALSE NEIGHBOUR: 'it returns false'. Refute it at one input. -/
def dictBackWrong : ChangeSpec := { name := "dictBack", fn := fun _ => fun
  | [d1, d2] => { results := [.lit (.bool false)], args := [d1, d2] }
  | _ => none }
def DictBackWrongFalsely : Prop := dictBackRow.holds Try.pinned (OpenSpec.ofChange dictBackWrong)

/- THE SECOND FORM. 'bulk': how many values and letters a reading holds, each counted each time it is reached (what is shared counts as often as it is met; a slice's spare places count too). A statement '..UptoSaid' is the law's where the arguments, and the package variables that the reading takes, are together of bulk at most 1048576: NARROWER than '..Said'. Prove '..Said' where nothing that the law and all that it calls make is longer than what came in: it says more and counts as full. Else prove '..UptoSaid'. A law counts once. -/
mutual
def uptoBulk {H : Type} : DataW H → Nat
  | .lit (.string bytes) => bytes.length + 1
  | .lit _ => 1
  | .nil => 1
  | .ptr d => uptoBulk d + 1
  | .slice elems spare => uptoBulkAll elems + uptoBulkAll spare + 1
  | .agg parts => uptoBulkAll parts + 1
  | .iface _ d => uptoBulk d + 1
  | .map entries => uptoBulkEntries entries + 1
  | .held _ => 1
def uptoBulkAll {H : Type} : List (DataW H) → Nat
  | [] => 0
  | d :: r => uptoBulk d + uptoBulkAll r
def uptoBulkEntries {H : Type} : List (Lit × DataW H) → Nat
  | [] => 0
  | x :: r => uptoBulkEntry x + uptoBulkEntries r
def uptoBulkEntry {H : Type} : Lit × DataW H → Nat
  | (.string bytes, d) => bytes.length + uptoBulk d + 1
  | (_, d) => uptoBulk d + 1
 end
def uptoSmall : (H : Type) → List (DataW H) → Bool := fun _ ds => decide (uptoBulkAll ds ≤ 1048576)
def OpenSpec.upto (s : _root_.Go.ChangeSpec) : _root_.Go.OpenSpec := { _root_.Go.OpenSpec.ofChange s with cond := some uptoSmall }

/-- 'codexlaw13.DictPacks', WHERE WHAT IT READS IS OF BULK AT MOST 1048576: true; the input reads as it did. -/
def dictPacksUptoRow : OpenClaim := { program := "ytefnddhondbjbaa", sum := "77b9efb5a969b26772080a4238060a71437889e2f5b8fb24e57485f67cd6542b", func := "codex/codexlaw13.DictPacks", spec := "dictPacks", inPlace := ["internal/abi.NoEscape"], unfollowed := true, recurses := true, apart := false, narrowed := true }
def DictPacksUptoSaid : Prop := dictPacksUptoRow.holds Try.pinned (OpenSpec.upto dictPacksSpec)

/-- 'codexlaw13.DictFinds', WHERE WHAT IT READS IS OF BULK AT MOST 1048576: true; the input reads as it did. -/
def dictFindsUptoRow : OpenClaim := { program := "ytefnddhondbjbaa", sum := "77b9efb5a969b26772080a4238060a71437889e2f5b8fb24e57485f67cd6542b", func := "codex/codexlaw13.DictFinds", spec := "dictFinds", inPlace := ["internal/abi.NoEscape"], unfollowed := true, recurses := true, apart := false, narrowed := true }
def DictFindsUptoSaid : Prop := dictFindsUptoRow.holds Try.pinned (OpenSpec.upto dictFindsSpec)

/-- 'codexlaw13.DictPrefixes', WHERE WHAT IT READS IS OF BULK AT MOST 1048576: true; the input reads as it did. -/
def dictPrefixesUptoRow : OpenClaim := { program := "ytefnddhondbjbaa", sum := "77b9efb5a969b26772080a4238060a71437889e2f5b8fb24e57485f67cd6542b", func := "codex/codexlaw13.DictPrefixes", spec := "dictPrefixes", inPlace := ["internal/abi.NoEscape"], unfollowed := true, recurses := true, apart := false, narrowed := true }
def DictPrefixesUptoSaid : Prop := dictPrefixesUptoRow.holds Try.pinned (OpenSpec.upto dictPrefixesSpec)

/-- 'codexlaw13.DictValues', WHERE WHAT IT READS IS OF BULK AT MOST 1048576: true; the input reads as it did. -/
def dictValuesUptoRow : OpenClaim := { program := "ytefnddhondbjbaa", sum := "77b9efb5a969b26772080a4238060a71437889e2f5b8fb24e57485f67cd6542b", func := "codex/codexlaw13.DictValues", spec := "dictValues", inPlace := ["internal/abi.NoEscape"], unfollowed := true, recurses := true, apart := false, narrowed := true }
def DictValuesUptoSaid : Prop := dictValuesUptoRow.holds Try.pinned (OpenSpec.upto dictValuesSpec)

/-- 'codexlaw13.DictReads', WHERE WHAT IT READS IS OF BULK AT MOST 1048576: true; the input reads as it did. -/
def dictReadsUptoRow : OpenClaim := { program := "ytefnddhondbjbaa", sum := "77b9efb5a969b26772080a4238060a71437889e2f5b8fb24e57485f67cd6542b", func := "codex/codexlaw13.DictReads", spec := "dictReads", inPlace := ["internal/abi.NoEscape"], unfollowed := true, recurses := true, apart := false, narrowed := true }
def DictReadsUptoSaid : Prop := dictReadsUptoRow.holds Try.pinned (OpenSpec.upto dictReadsSpec)

/-- 'codexlaw13.DictBack', WHERE WHAT IT READS IS OF BULK AT MOST 1048576: true; the input reads as it did. -/
def dictBackUptoRow : OpenClaim := { program := "ytefnddhondbjbaa", sum := "77b9efb5a969b26772080a4238060a71437889e2f5b8fb24e57485f67cd6542b", func := "codex/codexlaw13.DictBack", spec := "dictBack", inPlace := ["internal/abi.NoEscape"], unfollowed := true, recurses := true, apart := false, narrowed := true }
def DictBackUptoSaid : Prop := dictBackUptoRow.holds Try.pinned (OpenSpec.upto dictBackSpec)

end Rows
end Go.Proofs.Ytefnddhondbjbaa
