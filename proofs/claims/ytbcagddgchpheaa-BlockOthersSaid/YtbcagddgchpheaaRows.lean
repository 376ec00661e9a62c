/-
  No cell of these rows narrows 'for every input' (looked for: loops, veiled, ifaces, maps, wideKeys, modest, calm, conditions, laid).
  DERIVED. THE GIVEN ROWS OF THIS SEAT. 6 by the template 'for every input the law returns true; each argument reads behind the call as it read before'; 0 by the template 'total and deterministic' (their statements: YtbcagddgchpheaaTotals.lean).
  GIVEN WITH THE SEED: the statements are not yours to turn. If you find one false, say at which input.
  Laid BY PROGRAM, IN A SANDBOX (cutbox-rows.mjs): the forced cells as the released guide's own fill.sh prints them over the translation 3c59ea1f2e6150f7… (all of the seat's roots in one cut). By AI agents, Wed Nov 11 2026. No macro, syntax, notation, axiom, sorry.
-/
import Derived.Test.YtbcagddgchpheaaChecked
import GoSem.Claim
import GoSem.ClaimJoined
import GoSem.ClaimMapViews
import Derived.JoinedTies
import Derived.KernelRfl
namespace Go.Proofs.Ytbcagddgchpheaa
/- THE CELL 'sum', in the pinned program and in every row, IS THE sha256 OF THE DUMP (.gsa) THAT YtbcagddgchpheaaProg.lean LOADS. Nothing in Lean hashes anything: it is a label: what it is worth is what the hold of that sum in a sandbox is worth. -/
noncomputable def Try.pinned : Pinned := { name := "ytbcagddgchpheaa", sum := "3c59ea1f2e6150f7c15325fde36868fb433bec4dc16783ca47e1f49549bbf829", checked := Try.checked }
namespace Rows
def none {H : Type} : Left H := { results := [], args := [] }

/-- 'codexlaw1.BlockPlays': WHATEVER THE INPUT: true; the input reads as it did. -/
def blockPlaysSpec : ChangeSpec := { name := "blockPlays", fn := fun _ => fun
  | [d1, d2] => { results := [.lit (.bool true)], args := [d1, d2] }
  | _ => none }
def blockPlaysRow : OpenClaim := { program := "ytbcagddgchpheaa", sum := "3c59ea1f2e6150f7c15325fde36868fb433bec4dc16783ca47e1f49549bbf829", func := "codex/codexlaw1.BlockPlays", spec := "blockPlays", inPlace := ["internal/abi.NoEscape", "internal/bytealg.MakeNoZero"], apart := false }
def BlockPlaysSaid : Prop := blockPlaysRow.holds Try.pinned (OpenSpec.ofChange blockPlaysSpec)

/-- ITS FALSE NEIGHBOUR: 'it returns false'. Refute it at one input. -/
def blockPlaysWrong : ChangeSpec := { name := "blockPlays", fn := fun _ => fun
  | [d1, d2] => { results := [.lit (.bool false)], args := [d1, d2] }
  | _ => none }
def BlockPlaysWrongFalsely : Prop := blockPlaysRow.holds Try.pinned (OpenSpec.ofChange blockPlaysWrong)

/-- 'codexlaw1.BlockKeeps': WHATEVER THE INPUT: true; the input reads as it did. -/
def blockKeepsSpec : ChangeSpec := { name := "blockKeeps", fn := fun _ => fun
  | [d1, d2] => { results := [.lit (.bool true)], args := [d1, d2] }
  | _ => none }
def blockKeepsRow : OpenClaim := { program := "ytbcagddgchpheaa", sum := "3c59ea1f2e6150f7c15325fde36868fb433bec4dc16783ca47e1f49549bbf829", func := "codex/codexlaw1.BlockKeeps", spec := "blockKeeps", inPlace := ["internal/abi.NoEscape", "internal/bytealg.MakeNoZero"], apart := false }
def BlockKeepsSaid : Prop := blockKeepsRow.holds Try.pinned (OpenSpec.ofChange blockKeepsSpec)

/-- ITS FALSE NEIGHBOUR: 'it returns false'. Refute it at one input. -/
def blockKeepsWrong : ChangeSpec := { name := "blockKeeps", fn := fun _ => fun
  | [d1, d2] => { results := [.lit (.bool false)], args := [d1, d2] }
  | _ => none }
def BlockKeepsWrongFalsely : Prop := blockKeepsRow.holds Try.pinned (OpenSpec.ofChange blockKeepsWrong)

/-- 'codexlaw1.BlockOthers': WHATEVER THE INPUT: true; the input reads as it did. -/
def blockOthersSpec : ChangeSpec := { name := "blockOthers", fn := fun _ => fun
  | [d1, d2, d3, d4] => { results := [.lit (.bool true)], args := [d1, d2, d3, d4] }
  | _ => none }
def blockOthersRow : OpenClaim := { program := "ytbcagddgchpheaa", sum := "3c59ea1f2e6150f7c15325fde36868fb433bec4dc16783ca47e1f49549bbf829", func := "codex/codexlaw1.BlockOthers", spec := "blockOthers", inPlace := ["internal/abi.NoEscape", "internal/bytealg.MakeNoZero"], apart := false }
def BlockOthersSaid : Prop := blockOthersRow.holds Try.pinned (OpenSpec.ofChange blockOthersSpec)

/-- ITS FALSE NEIGHBOUR: 'it returns false'. Refute it at one input. -/
def blockOthersWrong : ChangeSpec := { name := "blockOthers", fn := fun _ => fun
  | [d1, d2, d3, d4] => { results := [.lit (.bool false)], args := [d1, d2, d3, d4] }
  | _ => none }
def BlockOthersWrongFalsely : Prop := blockOthersRow.holds Try.pinned (OpenSpec.ofChange blockOthersWrong)

/-- 'codexlaw1.BlockFlushes': WHATEVER THE INPUT: true; the input reads as it did. -/
def blockFlushesSpec : ChangeSpec := { name := "blockFlushes", fn := fun _ => fun
  | [d1, d2] => { results := [.lit (.bool true)], args := [d1, d2] }
  | _ => none }
def blockFlushesRow : OpenClaim := { program := "ytbcagddgchpheaa", sum := "3c59ea1f2e6150f7c15325fde36868fb433bec4dc16783ca47e1f49549bbf829", func := "codex/codexlaw1.BlockFlushes", spec := "blockFlushes", inPlace := ["internal/abi.NoEscape", "internal/bytealg.MakeNoZero"], apart := false }
def BlockFlushesSaid : Prop := blockFlushesRow.holds Try.pinned (OpenSpec.ofChange blockFlushesSpec)

/-- ITS FALSE NEIGHBOUR: 'it returns false'. Refute it at one input. -/
def blockFlushesWrong : ChangeSpec := { name := "blockFlushes", fn := fun _ => fun
  | [d1, d2] => { results := [.lit (.bool false)], args := [d1, d2] }
  | _ => none }
def BlockFlushesWrongFalsely : Prop := blockFlushesRow.holds Try.pinned (OpenSpec.ofChange blockFlushesWrong)

/-- 'codexlaw1.BlockFuses': WHATEVER THE INPUT: true; the input reads as it did. -/
def blockFusesSpec : ChangeSpec := { name := "blockFuses", fn := fun _ => fun
  | [d1, d2, d3] => { results := [.lit (.bool true)], args := [d1, d2, d3] }
  | _ => none }
def blockFusesRow : OpenClaim := { program := "ytbcagddgchpheaa", sum := "3c59ea1f2e6150f7c15325fde36868fb433bec4dc16783ca47e1f49549bbf829", func := "codex/codexlaw1.BlockFuses", spec := "blockFuses", inPlace := ["internal/abi.NoEscape", "internal/bytealg.MakeNoZero"], apart := false }
def BlockFusesSaid : Prop := blockFusesRow.holds Try.pinned (OpenSpec.ofChange blockFusesSpec)

/-- ITS FALSE NEIGHBOUR: 'it returns false'. Refute it at one input. -/
def blockFusesWrong : ChangeSpec := { name := "blockFuses", fn := fun _ => fun
  | [d1, d2, d3] => { results := [.lit (.bool false)], args := [d1, d2, d3] }
  | _ => none }
def BlockFusesWrongFalsely : Prop := blockFusesRow.holds Try.pinned (OpenSpec.ofChange blockFusesWrong)

/-- 'codexlaw1.BlockTears': WHATEVER THE INPUT: true; the input reads as it did. -/
def blockTearsSpec : ChangeSpec := { name := "blockTears", fn := fun _ => fun
  | [d1, d2, d3] => { results := [.lit (.bool true)], args := [d1, d2, d3] }
  | _ => none }
def blockTearsRow : OpenClaim := { program := "ytbcagddgchpheaa", sum := "3c59ea1f2e6150f7c15325fde36868fb433bec4dc16783ca47e1f49549bbf829", func := "codex/codexlaw1.BlockTears", spec := "blockTears", inPlace := ["internal/abi.NoEscape", "internal/bytealg.MakeNoZero"], apart := false }
def BlockTearsSaid : Prop := blockTearsRow.holds Try.pinned (OpenSpec.ofChange blockTearsSpec)

/-- ITS FALSE NEIGHBOUR: 'it returns false'. Refute it at one input. -/
def blockTearsWrong : ChangeSpec := { name := "blockTears", fn := fun _ => fun
  | [d1, d2, d3] => { results := [.lit (.bool false)], args := [d1, d2, d3] }
  | _ => none }
def BlockTearsWrongFalsely : Prop := blockTearsRow.holds Try.pinned (OpenSpec.ofChange blockTearsWrong)

/- THE SECOND FORM. 'bulk': how many values and letters a reading holds, each counted each time it is reached (what is shared counts as often as it is met; a slice's spare places count too). A statement '..UptoSaid' is the law's where the arguments, and the package variables that the reading takes, are together of bulk at most 1048576: NARROWER than '..Said'. Prove '..Said' where nothing that the law and all that it calls make is longer than what came in: it says more and counts as full. Else prove '..UptoSaid'. A law counts once. -/
mutual
def uptoBulk {H : Type} : DataW H → Nat
  | .lit (.string bytes) => bytes.length + 1
  | .lit _ => 1
  | .nil => 1
  | .ptr d => uptoBulk d + 1
  | .slice elems spare => uptoBulkAll elems + uptoBulkAll spare + 1
  | .agg parts => uptoBulkAll parts + 1
  | .iface _ d => uptoBulk d + 1
  | .map entries => uptoBulkEntries entries + 1
  | .held _ => 1
def uptoBulkAll {H : Type} : List (DataW H) → Nat
  | [] => 0
  | d :: r => uptoBulk d + uptoBulkAll r
def uptoBulkEntries {H : Type} : List (Lit × DataW H) → Nat
  | [] => 0
  | x :: r => uptoBulkEntry x + uptoBulkEntries r
def uptoBulkEntry {H : Type} : Lit × DataW H → Nat
  | (.string bytes, d) => bytes.length + uptoBulk d + 1
  | (_, d) => uptoBulk d + 1
 end
def uptoSmall : (H : Type) → List (DataW H) → Bool := fun _ ds => decide (uptoBulkAll ds ≤ 1048576)
def OpenSpec.upto (s : _root_.Go.ChangeSpec) : _root_.Go.OpenSpec := { _root_.Go.OpenSpec.ofChange s with cond := some uptoSmall }

/-- 'codexlaw1.BlockPlays', WHERE WHAT IT READS IS OF BULK AT MOST 1048576: true; the input reads as it did. -/
def blockPlaysUptoRow : OpenClaim := { program := "ytbcagddgchpheaa", sum := "3c59ea1f2e6150f7c15325fde36868fb433bec4dc16783ca47e1f49549bbf829", func := "codex/codexlaw1.BlockPlays", spec := "blockPlays", inPlace := ["internal/abi.NoEscape", "internal/bytealg.MakeNoZero"], apart := false, narrowed := true }
def BlockPlaysUptoSaid : Prop := blockPlaysUptoRow.holds Try.pinned (OpenSpec.upto blockPlaysSpec)

/-- 'codexlaw1.BlockKeeps', WHERE WHAT IT READS IS OF BULK AT MOST 1048576: true; the input reads as it did. -/
def blockKeepsUptoRow : OpenClaim := { program := "ytbcagddgchpheaa", sum := "3c59ea1f2e6150f7c15325fde36868fb433bec4dc16783ca47e1f49549bbf829", func := "codex/codexlaw1.BlockKeeps", spec := "blockKeeps", inPlace := ["internal/abi.NoEscape", "internal/bytealg.MakeNoZero"], apart := false, narrowed := true }
def BlockKeepsUptoSaid : Prop := blockKeepsUptoRow.holds Try.pinned (OpenSpec.upto blockKeepsSpec)

/-- 'codexlaw1.BlockOthers', WHERE WHAT IT READS IS OF BULK AT MOST 1048576: true; the input reads as it did. -/
def blockOthersUptoRow : OpenClaim := { program := "ytbcagddgchpheaa", sum := "3c59ea1f2e6150f7c15325fde36868fb433bec4dc16783ca47e1f49549bbf829", func := "codex/codexlaw1.BlockOthers", spec := "blockOthers", inPlace := ["internal/abi.NoEscape", "internal/bytealg.MakeNoZero"], apart := false, narrowed := true }
def BlockOthersUptoSaid : Prop := blockOthersUptoRow.holds Try.pinned (OpenSpec.upto blockOthersSpec)

/-- 'codexlaw1.BlockFlushes', WHERE WHAT IT READS IS OF BULK AT MOST 1048576: true; the input reads as it did. -/
def blockFlushesUptoRow : OpenClaim := { program := "ytbcagddgchpheaa", sum := "3c59ea1f2e6150f7c15325fde36868fb433bec4dc16783ca47e1f49549bbf829", func := "codex/codexlaw1.BlockFlushes", spec := "blockFlushes", inPlace := ["internal/abi.NoEscape", "internal/bytealg.MakeNoZero"], apart := false, narrowed := true }
def BlockFlushesUptoSaid : Prop := blockFlushesUptoRow.holds Try.pinned (OpenSpec.upto blockFlushesSpec)

/-- 'codexlaw1.BlockFuses', WHERE WHAT IT READS IS OF BULK AT MOST 1048576: true; the input reads as it did. -/
def blockFusesUptoRow : OpenClaim := { program := "ytbcagddgchpheaa", sum := "3c59ea1f2e6150f7c15325fde36868fb433bec4dc16783ca47e1f49549bbf829", func := "codex/codexlaw1.BlockFuses", spec := "blockFuses", inPlace := ["internal/abi.NoEscape", "internal/bytealg.MakeNoZero"], apart := false, narrowed := true }
def BlockFusesUptoSaid : Prop := blockFusesUptoRow.holds Try.pinned (OpenSpec.upto blockFusesSpec)

/-- 'codexlaw1.BlockTears', WHERE WHAT IT READS IS OF BULK AT MOST 1048576: true; the input reads as it did. -/
def blockTearsUptoRow : OpenClaim := { program := "ytbcagddgchpheaa", sum := "3c59ea1f2e6150f7c15325fde36868fb433bec4dc16783ca47e1f49549bbf829", func := "codex/codexlaw1.BlockTears", spec := "blockTears", inPlace := ["internal/abi.NoEscape", "internal/bytealg.MakeNoZero"], apart := false, narrowed := true }
def BlockTearsUptoSaid : Prop := blockTearsUptoRow.holds Try.pinned (OpenSpec.upto blockTearsSpec)

end Rows
end Go.Proofs.Ytbcagddgchpheaa
