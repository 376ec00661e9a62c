/-
  No cell of these rows narrows 'for every input' (looked for: loops, veiled, ifaces, maps, wideKeys, modest, calm, conditions, laid).
  DERIVED. THE GIVEN ROWS OF THIS SEAT. 8 by the template 'for every input the law returns true; each argument reads behind the call as it read before'; 0 by the template 'total and deterministic' (their statements: YtijjccamcodbfaaTotals.lean).
  GIVEN WITH THE SEED: the statements are not yours to turn. If you find one false, say at which input.
  Laid BY PROGRAM, IN A SANDBOX (cutbox-rows.mjs): the forced cells as the released guide's own fill.sh prints them over the translation d0f0476a42e90d8b… (all of the seat's roots in one cut). By AI agents, Wed Nov 11 2026. No macro, syntax, notation, axiom, sorry.
-/
import Derived.Test.YtijjccamcodbfaaChecked
import GoSem.Claim
import GoSem.ClaimJoined
import GoSem.ClaimMapViews
import Derived.JoinedTies
import Derived.KernelRfl
namespace Go.Proofs.Ytijjccamcodbfaa
/- THE CELL 'sum', in the pinned program and in every row, IS THE sha256 OF THE DUMP (.gsa) THAT YtijjccamcodbfaaProg.lean LOADS. Nothing in Lean hashes anything: it is a label: what it is worth is what the hold of that sum in a sandbox is worth. -/
noncomputable def Try.pinned : Pinned := { name := "ytijjccamcodbfaa", sum := "d0f0476a42e90d8b4c862a6c50ff221b5c862af28ca625a96cd55c7b4a6069ea", checked := Try.checked }
namespace Rows
def none {H : Type} : Left H := { results := [], args := [] }

/-- 'codexlaw2.WireSums': WHATEVER THE INPUT: true; the input reads as it did. -/
def wireSumsSpec : ChangeSpec := { name := "wireSums", fn := fun _ => fun
  | [d1, d2, d3] => { results := [.lit (.bool true)], args := [d1, d2, d3] }
  | _ => none }
def wireSumsRow : OpenClaim := { program := "ytijjccamcodbfaa", sum := "d0f0476a42e90d8b4c862a6c50ff221b5c862af28ca625a96cd55c7b4a6069ea", func := "codex/codexlaw2.WireSums", spec := "wireSums", inPlace := ["internal/abi.NoEscape"], apart := false }
def WireSumsSaid : Prop := wireSumsRow.holds Try.pinned (OpenSpec.ofChange wireSumsSpec)

/-- ITS FALSE NEIGHBOUR: 'it returns false'. Refute it at one input. -/
def wireSumsWrong : ChangeSpec := { name := "wireSums", fn := fun _ => fun
  | [d1, d2, d3] => { results := [.lit (.bool false)], args := [d1, d2, d3] }
  | _ => none }
def WireSumsWrongFalsely : Prop := wireSumsRow.holds Try.pinned (OpenSpec.ofChange wireSumsWrong)

/-- 'codexlaw2.WireNumbers': WHATEVER THE INPUT: true; the input reads as it did. -/
def wireNumbersSpec : ChangeSpec := { name := "wireNumbers", fn := fun _ => fun
  | [d1, d2, d3, d4] => { results := [.lit (.bool true)], args := [d1, d2, d3, d4] }
  | _ => none }
def wireNumbersRow : OpenClaim := { program := "ytijjccamcodbfaa", sum := "d0f0476a42e90d8b4c862a6c50ff221b5c862af28ca625a96cd55c7b4a6069ea", func := "codex/codexlaw2.WireNumbers", spec := "wireNumbers", inPlace := ["internal/abi.NoEscape"], apart := false }
def WireNumbersSaid : Prop := wireNumbersRow.holds Try.pinned (OpenSpec.ofChange wireNumbersSpec)

/-- ITS FALSE NEIGHBOUR: 'it returns false'. Refute it at one input. -/
def wireNumbersWrong : ChangeSpec := { name := "wireNumbers", fn := fun _ => fun
  | [d1, d2, d3, d4] => { results := [.lit (.bool false)], args := [d1, d2, d3, d4] }
  | _ => none }
def WireNumbersWrongFalsely : Prop := wireNumbersRow.holds Try.pinned (OpenSpec.ofChange wireNumbersWrong)

/-- 'codexlaw2.WireTexts': WHATEVER THE INPUT: true; the input reads as it did. -/
def wireTextsSpec : ChangeSpec := { name := "wireTexts", fn := fun _ => fun
  | [d1, d2, d3] => { results := [.lit (.bool true)], args := [d1, d2, d3] }
  | _ => none }
def wireTextsRow : OpenClaim := { program := "ytijjccamcodbfaa", sum := "d0f0476a42e90d8b4c862a6c50ff221b5c862af28ca625a96cd55c7b4a6069ea", func := "codex/codexlaw2.WireTexts", spec := "wireTexts", inPlace := ["internal/abi.NoEscape"], apart := false }
def WireTextsSaid : Prop := wireTextsRow.holds Try.pinned (OpenSpec.ofChange wireTextsSpec)

/-- ITS FALSE NEIGHBOUR: 'it returns false'. Refute it at one input. -/
def wireTextsWrong : ChangeSpec := { name := "wireTexts", fn := fun _ => fun
  | [d1, d2, d3] => { results := [.lit (.bool false)], args := [d1, d2, d3] }
  | _ => none }
def WireTextsWrongFalsely : Prop := wireTextsRow.holds Try.pinned (OpenSpec.ofChange wireTextsWrong)

/-- 'codexlaw2.WireBack': WHATEVER THE INPUT: true; the input reads as it did. -/
def wireBackSpec : ChangeSpec := { name := "wireBack", fn := fun _ => fun
  | [d1, d2, d3, d4] => { results := [.lit (.bool true)], args := [d1, d2, d3, d4] }
  | _ => none }
def wireBackRow : OpenClaim := { program := "ytijjccamcodbfaa", sum := "d0f0476a42e90d8b4c862a6c50ff221b5c862af28ca625a96cd55c7b4a6069ea", func := "codex/codexlaw2.WireBack", spec := "wireBack", inPlace := ["internal/abi.NoEscape"], apart := false }
def WireBackSaid : Prop := wireBackRow.holds Try.pinned (OpenSpec.ofChange wireBackSpec)

/-- ITS FALSE NEIGHBOUR: 'it returns false'. Refute it at one input. -/
def wireBackWrong : ChangeSpec := { name := "wireBack", fn := fun _ => fun
  | [d1, d2, d3, d4] => { results := [.lit (.bool false)], args := [d1, d2, d3, d4] }
  | _ => none }
def WireBackWrongFalsely : Prop := wireBackRow.holds Try.pinned (OpenSpec.ofChange wireBackWrong)

/-- 'codexlaw2.WireFlips': WHATEVER THE INPUT: true; the input reads as it did. -/
def wireFlipsSpec : ChangeSpec := { name := "wireFlips", fn := fun _ => fun
  | [d1, d2, d3] => { results := [.lit (.bool true)], args := [d1, d2, d3] }
  | _ => none }
def wireFlipsRow : OpenClaim := { program := "ytijjccamcodbfaa", sum := "d0f0476a42e90d8b4c862a6c50ff221b5c862af28ca625a96cd55c7b4a6069ea", func := "codex/codexlaw2.WireFlips", spec := "wireFlips", inPlace := ["internal/abi.NoEscape"], apart := false }
def WireFlipsSaid : Prop := wireFlipsRow.holds Try.pinned (OpenSpec.ofChange wireFlipsSpec)

/-- ITS FALSE NEIGHBOUR: 'it returns false'. Refute it at one input. -/
def wireFlipsWrong : ChangeSpec := { name := "wireFlips", fn := fun _ => fun
  | [d1, d2, d3] => { results := [.lit (.bool false)], args := [d1, d2, d3] }
  | _ => none }
def WireFlipsWrongFalsely : Prop := wireFlipsRow.holds Try.pinned (OpenSpec.ofChange wireFlipsWrong)

/-- 'codexlaw2.WireLengths': WHATEVER THE INPUT: true; the input reads as it did. -/
def wireLengthsSpec : ChangeSpec := { name := "wireLengths", fn := fun _ => fun
  | [d] => { results := [.lit (.bool true)], args := [d] }
  | _ => none }
def wireLengthsRow : OpenClaim := { program := "ytijjccamcodbfaa", sum := "d0f0476a42e90d8b4c862a6c50ff221b5c862af28ca625a96cd55c7b4a6069ea", func := "codex/codexlaw2.WireLengths", spec := "wireLengths", inPlace := ["internal/abi.NoEscape"], apart := false }
def WireLengthsSaid : Prop := wireLengthsRow.holds Try.pinned (OpenSpec.ofChange wireLengthsSpec)

/-- ITS FALSE NEIGHBOUR: 'it returns false'. Refute it at one input. -/
def wireLengthsWrong : ChangeSpec := { name := "wireLengths", fn := fun _ => fun
  | [d] => { results := [.lit (.bool false)], args := [d] }
  | _ => none }
def WireLengthsWrongFalsely : Prop := wireLengthsRow.holds Try.pinned (OpenSpec.ofChange wireLengthsWrong)

/-- 'codexlaw2.WireLists': WHATEVER THE INPUT: true; the input reads as it did. -/
def wireListsSpec : ChangeSpec := { name := "wireLists", fn := fun _ => fun
  | [d] => { results := [.lit (.bool true)], args := [d] }
  | _ => none }
def wireListsRow : OpenClaim := { program := "ytijjccamcodbfaa", sum := "d0f0476a42e90d8b4c862a6c50ff221b5c862af28ca625a96cd55c7b4a6069ea", func := "codex/codexlaw2.WireLists", spec := "wireLists", inPlace := ["internal/abi.NoEscape"], apart := false }
def WireListsSaid : Prop := wireListsRow.holds Try.pinned (OpenSpec.ofChange wireListsSpec)

/-- ITS FALSE NEIGHBOUR: 'it returns false'. Refute it at one input. -/
def wireListsWrong : ChangeSpec := { name := "wireLists", fn := fun _ => fun
  | [d] => { results := [.lit (.bool false)], args := [d] }
  | _ => none }
def WireListsWrongFalsely : Prop := wireListsRow.holds Try.pinned (OpenSpec.ofChange wireListsWrong)

/-- 'codexlaw2.WireLinear': WHATEVER THE INPUT: true; the input reads as it did. -/
def wireLinearSpec : ChangeSpec := { name := "wireLinear", fn := fun _ => fun
  | [d1, d2, d3] => { results := [.lit (.bool true)], args := [d1, d2, d3] }
  | _ => none }
def wireLinearRow : OpenClaim := { program := "ytijjccamcodbfaa", sum := "d0f0476a42e90d8b4c862a6c50ff221b5c862af28ca625a96cd55c7b4a6069ea", func := "codex/codexlaw2.WireLinear", spec := "wireLinear", inPlace := ["internal/abi.NoEscape"], apart := false }
def WireLinearSaid : Prop := wireLinearRow.holds Try.pinned (OpenSpec.ofChange wireLinearSpec)

/-- ITS FALSE NEIGHBOUR: 'it returns false'. Refute it at one input. -/
def wireLinearWrong : ChangeSpec := { name := "wireLinear", fn := fun _ => fun
  | [d1, d2, d3] => { results := [.lit (.bool false)], args := [d1, d2, d3] }
  | _ => none }
def WireLinearWrongFalsely : Prop := wireLinearRow.holds Try.pinned (OpenSpec.ofChange wireLinearWrong)

/- THE SECOND FORM. 'bulk': how many values and letters a reading holds, each counted each time it is reached (what is shared counts as often as it is met; a slice's spare places count too). A statement '..UptoSaid' is the law's where the arguments, and the package variables that the reading takes, are together of bulk at most 1048576: NARROWER than '..Said'. Prove '..Said' where nothing that the law and all that it calls make is longer than what came in: it says more and counts as full. Else prove '..UptoSaid'. A law counts once. -/
mutual
def uptoBulk {H : Type} : DataW H → Nat
  | .lit (.string bytes) => bytes.length + 1
  | .lit _ => 1
  | .nil => 1
  | .ptr d => uptoBulk d + 1
  | .slice elems spare => uptoBulkAll elems + uptoBulkAll spare + 1
  | .agg parts => uptoBulkAll parts + 1
  | .iface _ d => uptoBulk d + 1
  | .map entries => uptoBulkEntries entries + 1
  | .held _ => 1
def uptoBulkAll {H : Type} : List (DataW H) → Nat
  | [] => 0
  | d :: r => uptoBulk d + uptoBulkAll r
def uptoBulkEntries {H : Type} : List (Lit × DataW H) → Nat
  | [] => 0
  | x :: r => uptoBulkEntry x + uptoBulkEntries r
def uptoBulkEntry {H : Type} : Lit × DataW H → Nat
  | (.string bytes, d) => bytes.length + uptoBulk d + 1
  | (_, d) => uptoBulk d + 1
 end
def uptoSmall : (H : Type) → List (DataW H) → Bool := fun _ ds => decide (uptoBulkAll ds ≤ 1048576)
def OpenSpec.upto (s : _root_.Go.ChangeSpec) : _root_.Go.OpenSpec := { _root_.Go.OpenSpec.ofChange s with cond := some uptoSmall }

/-- 'codexlaw2.WireSums', WHERE WHAT IT READS IS OF BULK AT MOST 1048576: true; the input reads as it did. -/
def wireSumsUptoRow : OpenClaim := { program := "ytijjccamcodbfaa", sum := "d0f0476a42e90d8b4c862a6c50ff221b5c862af28ca625a96cd55c7b4a6069ea", func := "codex/codexlaw2.WireSums", spec := "wireSums", inPlace := ["internal/abi.NoEscape"], apart := false, narrowed := true }
def WireSumsUptoSaid : Prop := wireSumsUptoRow.holds Try.pinned (OpenSpec.upto wireSumsSpec)

/-- 'codexlaw2.WireNumbers', WHERE WHAT IT READS IS OF BULK AT MOST 1048576: true; the input reads as it did. -/
def wireNumbersUptoRow : OpenClaim := { program := "ytijjccamcodbfaa", sum := "d0f0476a42e90d8b4c862a6c50ff221b5c862af28ca625a96cd55c7b4a6069ea", func := "codex/codexlaw2.WireNumbers", spec := "wireNumbers", inPlace := ["internal/abi.NoEscape"], apart := false, narrowed := true }
def WireNumbersUptoSaid : Prop := wireNumbersUptoRow.holds Try.pinned (OpenSpec.upto wireNumbersSpec)

/-- 'codexlaw2.WireTexts', WHERE WHAT IT READS IS OF BULK AT MOST 1048576: true; the input reads as it did. -/
def wireTextsUptoRow : OpenClaim := { program := "ytijjccamcodbfaa", sum := "d0f0476a42e90d8b4c862a6c50ff221b5c862af28ca625a96cd55c7b4a6069ea", func := "codex/codexlaw2.WireTexts", spec := "wireTexts", inPlace := ["internal/abi.NoEscape"], apart := false, narrowed := true }
def WireTextsUptoSaid : Prop := wireTextsUptoRow.holds Try.pinned (OpenSpec.upto wireTextsSpec)

/-- 'codexlaw2.WireBack', WHERE WHAT IT READS IS OF BULK AT MOST 1048576: true; the input reads as it did. -/
def wireBackUptoRow : OpenClaim := { program := "ytijjccamcodbfaa", sum := "d0f0476a42e90d8b4c862a6c50ff221b5c862af28ca625a96cd55c7b4a6069ea", func := "codex/codexlaw2.WireBack", spec := "wireBack", inPlace := ["internal/abi.NoEscape"], apart := false, narrowed := true }
def WireBackUptoSaid : Prop := wireBackUptoRow.holds Try.pinned (OpenSpec.upto wireBackSpec)

/-- 'codexlaw2.WireFlips', WHERE WHAT IT READS IS OF BULK AT MOST 1048576: true; the input reads as it did. -/
def wireFlipsUptoRow : OpenClaim := { program := "ytijjccamcodbfaa", sum := "d0f0476a42e90d8b4c862a6c50ff221b5c862af28ca625a96cd55c7b4a6069ea", func := "codex/codexlaw2.WireFlips", spec := "wireFlips", inPlace := ["internal/abi.NoEscape"], apart := false, narrowed := true }
def WireFlipsUptoSaid : Prop := wireFlipsUptoRow.holds Try.pinned (OpenSpec.upto wireFlipsSpec)

/-- 'codexlaw2.WireLengths', WHERE WHAT IT READS IS OF BULK AT MOST 1048576: true; the input reads as it did. -/
def wireLengthsUptoRow : OpenClaim := { program := "ytijjccamcodbfaa", sum := "d0f0476a42e90d8b4c862a6c50ff221b5c862af28ca625a96cd55c7b4a6069ea", func := "codex/codexlaw2.WireLengths", spec := "wireLengths", inPlace := ["internal/abi.NoEscape"], apart := false, narrowed := true }
def WireLengthsUptoSaid : Prop := wireLengthsUptoRow.holds Try.pinned (OpenSpec.upto wireLengthsSpec)

/-- 'codexlaw2.WireLists', WHERE WHAT IT READS IS OF BULK AT MOST 1048576: true; the input reads as it did. -/
def wireListsUptoRow : OpenClaim := { program := "ytijjccamcodbfaa", sum := "d0f0476a42e90d8b4c862a6c50ff221b5c862af28ca625a96cd55c7b4a6069ea", func := "codex/codexlaw2.WireLists", spec := "wireLists", inPlace := ["internal/abi.NoEscape"], apart := false, narrowed := true }
def WireListsUptoSaid : Prop := wireListsUptoRow.holds Try.pinned (OpenSpec.upto wireListsSpec)

/-- 'codexlaw2.WireLinear', WHERE WHAT IT READS IS OF BULK AT MOST 1048576: true; the input reads as it did. -/
def wireLinearUptoRow : OpenClaim := { program := "ytijjccamcodbfaa", sum := "d0f0476a42e90d8b4c862a6c50ff221b5c862af28ca625a96cd55c7b4a6069ea", func := "codex/codexlaw2.WireLinear", spec := "wireLinear", inPlace := ["internal/abi.NoEscape"], apart := false, narrowed := true }
def WireLinearUptoSaid : Prop := wireLinearUptoRow.holds Try.pinned (OpenSpec.upto wireLinearSpec)

end Rows
end Go.Proofs.Ytijjccamcodbfaa
