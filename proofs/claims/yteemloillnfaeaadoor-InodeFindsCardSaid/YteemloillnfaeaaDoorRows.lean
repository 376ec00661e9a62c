/-
  NARROWER THAN 'FOR EVERY INPUT', by the rows' own cells (each row's printed sentence says how): InodePacks: laid · InodeReads: laid · InodeBack: laid · InodeBounds: laid · InodeSums: laid · InodeRight: laid · InodeFinds: laid.
  DERIVED. THE GIVEN ROWS OF THIS SEAT. 7 by the template 'for every input the law returns true; each argument reads behind the call as it read before'; 0 by the template 'total and deterministic' (their statements: YteemloillnfaeaaDoorTotals.lean).
  GIVEN WITH THE SEED: the statements are not yours to turn. If you find one false, say at which input.
  Laid BY PROGRAM, IN A SANDBOX (cutbox-rows.mjs): the forced cells as the released guide's own fill.sh prints them over the translation 8e47619ee84a5287… (all of the seat's roots in one cut). By AI agents, Wed Nov 11 2026. No macro, syntax, notation, axiom, sorry.
-/
import Derived.Test.YteemloillnfaeaaDoorChecked
import GoSem.PinnedTables
import GoSem.Claim
import GoSem.ClaimJoined
import GoSem.ClaimMapViews
import Derived.JoinedTies
import Derived.KernelRfl
namespace Go.Proofs.YteemloillnfaeaaDoor
/- THE CELL 'sum', in the pinned program and in every row, IS THE sha256 OF THE DUMP (.gsa) THAT YteemloillnfaeaaDoorProg.lean LOADS. Nothing in Lean hashes anything: it is a label: what it is worth is what the hold of that sum in a sandbox is worth. -/
noncomputable def Tryd.pinned : Pinned := { name := "yteemloillnfaeaadoor", sum := "8e47619ee84a52877671fb28edfdfe6caf6bc15d47b11bfca1dd8b9eb6bcbd91", checked := Tryd.checked }
namespace Rows
def none {H : Type} : Left H := { results := [], args := [] }

/- WHAT THE LISTED PACKAGE-LEVEL VARIABLES READ AS WHEN THE CALL BEGINS. Each datum BY PROGRAM (the guide's laid-datum.mjs) off the statement by which the dump's own 'gosem.cut.vars' lays the variable. In a bare row this is a premise. The card (YteemloillnfaeaaDoorCards.lean) ties it to the program's text. -/
def laid_unicode_utf8_acceptRanges {H : Type} : DataW H := .agg [.agg [.lit (.int .u8 128), .lit (.int .u8 191)], .agg [.lit (.int .u8 160), .lit (.int .u8 191)], .agg [.lit (.int .u8 128), .lit (.int .u8 159)], .agg [.lit (.int .u8 144), .lit (.int .u8 191)], .agg [.lit (.int .u8 128), .lit (.int .u8 143)], .agg [.lit (.int .u8 0), .lit (.int .u8 0)], .agg [.lit (.int .u8 0), .lit (.int .u8 0)], .agg [.lit (.int .u8 0), .lit (.int .u8 0)], .agg [.lit (.int .u8 0), .lit (.int .u8 0)], .agg [.lit (.int .u8 0), .lit (.int .u8 0)], .agg [.lit (.int .u8 0), .lit (.int .u8 0)], .agg [.lit (.int .u8 0), .lit (.int .u8 0)], .agg [.lit (.int .u8 0), .lit (.int .u8 0)], .agg [.lit (.int .u8 0), .lit (.int .u8 0)], .agg [.lit (.int .u8 0), .lit (.int .u8 0)], .agg [.lit (.int .u8 0), .lit (.int .u8 0)]]
/-- One of Go's own tables, pinned by name: the form's constant. -/
def laid_unicode_utf8_first : DataW Unit := Go.Pinned.utf8First

/-- 'codexlaw8.InodePacks': WHATEVER THE INPUT: true; the input reads as it did. -/
def inodePacksSpec : ChangeSpec := { name := "inodePacks", fn := fun _ => fun
  | [d] => { results := [.lit (.bool true)], args := [d] }
  | _ => none }
def inodePacksRow : OpenClaim := { program := "yteemloillnfaeaadoor", sum := "8e47619ee84a52877671fb28edfdfe6caf6bc15d47b11bfca1dd8b9eb6bcbd91", func := "codex/codexlaw8.InodePacks", spec := "inodePacks", inPlace := ["internal/bytealg.IndexByteString", "internal/bytealg.IndexString", "internal/abi.NoEscape", "internal/bytealg.MakeNoZero"], unfollowed := true, recurses := true, named := ["unicode/utf8.first", "unicode/utf8.acceptRanges", "internal/bytealg.MaxLen"], apart := false, laid := [("unicode/utf8.acceptRanges", laid_unicode_utf8_acceptRanges), ("unicode/utf8.first", laid_unicode_utf8_first)] }
def InodePacksSaid : Prop := inodePacksRow.holds Tryd.pinned (OpenSpec.ofChange inodePacksSpec)

/-- ITS FALSE NEIGHBOUR: 'it returns false'. Refute it at one input. -/
def inodePacksWrong : ChangeSpec := { name := "inodePacks", fn := fun _ => fun
  | [d] => { results := [.lit (.bool false)], args := [d] }
  | _ => none }
def InodePacksWrongFalsely : Prop := inodePacksRow.holds Tryd.pinned (OpenSpec.ofChange inodePacksWrong)

/-- 'codexlaw8.InodeReads': WHATEVER THE INPUT: true; the input reads as it did. -/
def inodeReadsSpec : ChangeSpec := { name := "inodeReads", fn := fun _ => fun
  | [d1, d2, d3, d4] => { results := [.lit (.bool true)], args := [d1, d2, d3, d4] }
  | _ => none }
def inodeReadsRow : OpenClaim := { program := "yteemloillnfaeaadoor", sum := "8e47619ee84a52877671fb28edfdfe6caf6bc15d47b11bfca1dd8b9eb6bcbd91", func := "codex/codexlaw8.InodeReads", spec := "inodeReads", inPlace := ["internal/bytealg.IndexByteString", "internal/bytealg.IndexString", "internal/abi.NoEscape", "internal/bytealg.MakeNoZero"], unfollowed := true, recurses := true, named := ["unicode/utf8.first", "unicode/utf8.acceptRanges", "internal/bytealg.MaxLen"], apart := false, laid := [("unicode/utf8.acceptRanges", laid_unicode_utf8_acceptRanges), ("unicode/utf8.first", laid_unicode_utf8_first)] }
def InodeReadsSaid : Prop := inodeReadsRow.holds Tryd.pinned (OpenSpec.ofChange inodeReadsSpec)

/-- ITS FALSE NEIGHBOUR: 'it returns false'. Refute it at one input. -/
def inodeReadsWrong : ChangeSpec := { name := "inodeReads", fn := fun _ => fun
  | [d1, d2, d3, d4] => { results := [.lit (.bool false)], args := [d1, d2, d3, d4] }
  | _ => none }
def InodeReadsWrongFalsely : Prop := inodeReadsRow.holds Tryd.pinned (OpenSpec.ofChange inodeReadsWrong)

/-- 'codexlaw8.InodeBack': WHATEVER THE INPUT: true; the input reads as it did. -/
def inodeBackSpec : ChangeSpec := { name := "inodeBack", fn := fun _ => fun
  | [d1, d2] => { results := [.lit (.bool true)], args := [d1, d2] }
  | _ => none }
def inodeBackRow : OpenClaim := { program := "yteemloillnfaeaadoor", sum := "8e47619ee84a52877671fb28edfdfe6caf6bc15d47b11bfca1dd8b9eb6bcbd91", func := "codex/codexlaw8.InodeBack", spec := "inodeBack", inPlace := ["internal/bytealg.IndexByteString", "internal/bytealg.IndexString", "internal/abi.NoEscape", "internal/bytealg.MakeNoZero"], unfollowed := true, recurses := true, named := ["unicode/utf8.first", "unicode/utf8.acceptRanges", "internal/bytealg.MaxLen"], apart := false, laid := [("unicode/utf8.acceptRanges", laid_unicode_utf8_acceptRanges), ("unicode/utf8.first", laid_unicode_utf8_first)] }
def InodeBackSaid : Prop := inodeBackRow.holds Tryd.pinned (OpenSpec.ofChange inodeBackSpec)

/-- ITS FALSE NEIGHBOUR: 'it returns false'. Refute it at one input. -/
def inodeBackWrong : ChangeSpec := { name := "inodeBack", fn := fun _ => fun
  | [d1, d2] => { results := [.lit (.bool false)], args := [d1, d2] }
  | _ => none }
def InodeBackWrongFalsely : Prop := inodeBackRow.holds Tryd.pinned (OpenSpec.ofChange inodeBackWrong)

/-- 'codexlaw8.InodeBounds': WHATEVER THE INPUT: true; the input reads as it did. -/
def inodeBoundsSpec : ChangeSpec := { name := "inodeBounds", fn := fun _ => fun
  | [d1, d2, d3] => { results := [.lit (.bool true)], args := [d1, d2, d3] }
  | _ => none }
def inodeBoundsRow : OpenClaim := { program := "yteemloillnfaeaadoor", sum := "8e47619ee84a52877671fb28edfdfe6caf6bc15d47b11bfca1dd8b9eb6bcbd91", func := "codex/codexlaw8.InodeBounds", spec := "inodeBounds", inPlace := ["internal/bytealg.IndexByteString", "internal/bytealg.IndexString", "internal/abi.NoEscape", "internal/bytealg.MakeNoZero"], unfollowed := true, recurses := true, named := ["unicode/utf8.first", "unicode/utf8.acceptRanges", "internal/bytealg.MaxLen"], apart := false, laid := [("unicode/utf8.acceptRanges", laid_unicode_utf8_acceptRanges), ("unicode/utf8.first", laid_unicode_utf8_first)] }
def InodeBoundsSaid : Prop := inodeBoundsRow.holds Tryd.pinned (OpenSpec.ofChange inodeBoundsSpec)

/-- ITS FALSE NEIGHBOUR: 'it returns false'. Refute it at one input. -/
def inodeBoundsWrong : ChangeSpec := { name := "inodeBounds", fn := fun _ => fun
  | [d1, d2, d3] => { results := [.lit (.bool false)], args := [d1, d2, d3] }
  | _ => none }
def InodeBoundsWrongFalsely : Prop := inodeBoundsRow.holds Tryd.pinned (OpenSpec.ofChange inodeBoundsWrong)

/-- 'codexlaw8.InodeSums': WHATEVER THE INPUT: true; the input reads as it did. -/
def inodeSumsSpec : ChangeSpec := { name := "inodeSums", fn := fun _ => fun
  | [d1, d2] => { results := [.lit (.bool true)], args := [d1, d2] }
  | _ => none }
def inodeSumsRow : OpenClaim := { program := "yteemloillnfaeaadoor", sum := "8e47619ee84a52877671fb28edfdfe6caf6bc15d47b11bfca1dd8b9eb6bcbd91", func := "codex/codexlaw8.InodeSums", spec := "inodeSums", inPlace := ["internal/bytealg.IndexByteString", "internal/bytealg.IndexString", "internal/abi.NoEscape", "internal/bytealg.MakeNoZero"], unfollowed := true, recurses := true, named := ["unicode/utf8.first", "unicode/utf8.acceptRanges", "internal/bytealg.MaxLen"], apart := false, laid := [("unicode/utf8.acceptRanges", laid_unicode_utf8_acceptRanges), ("unicode/utf8.first", laid_unicode_utf8_first)] }
def InodeSumsSaid : Prop := inodeSumsRow.holds Tryd.pinned (OpenSpec.ofChange inodeSumsSpec)

/-- ITS FALSE NEIGHBOUR: 'it returns false'. Refute it at one input. -/
def inodeSumsWrong : ChangeSpec := { name := "inodeSums", fn := fun _ => fun
  | [d1, d2] => { results := [.lit (.bool false)], args := [d1, d2] }
  | _ => none }
def InodeSumsWrongFalsely : Prop := inodeSumsRow.holds Tryd.pinned (OpenSpec.ofChange inodeSumsWrong)

/-- 'codexlaw8.InodeRight': WHATEVER THE INPUT: true; the input reads as it did. -/
def inodeRightSpec : ChangeSpec := { name := "inodeRight", fn := fun _ => fun
  | [d1, d2, d3, d4] => { results := [.lit (.bool true)], args := [d1, d2, d3, d4] }
  | _ => none }
def inodeRightRow : OpenClaim := { program := "yteemloillnfaeaadoor", sum := "8e47619ee84a52877671fb28edfdfe6caf6bc15d47b11bfca1dd8b9eb6bcbd91", func := "codex/codexlaw8.InodeRight", spec := "inodeRight", inPlace := ["internal/bytealg.IndexByteString", "internal/bytealg.IndexString", "internal/abi.NoEscape", "internal/bytealg.MakeNoZero"], unfollowed := true, recurses := true, named := ["unicode/utf8.first", "unicode/utf8.acceptRanges", "internal/bytealg.MaxLen"], apart := false, laid := [("unicode/utf8.acceptRanges", laid_unicode_utf8_acceptRanges), ("unicode/utf8.first", laid_unicode_utf8_first)] }
def InodeRightSaid : Prop := inodeRightRow.holds Tryd.pinned (OpenSpec.ofChange inodeRightSpec)

/-- ITS FALSE NEIGHBOUR: 'it returns false'. Refute it at one input. -/
def inodeRightWrong : ChangeSpec := { name := "inodeRight", fn := fun _ => fun
  | [d1, d2, d3, d4] => { results := [.lit (.bool false)], args := [d1, d2, d3, d4] }
  | _ => none }
def InodeRightWrongFalsely : Prop := inodeRightRow.holds Tryd.pinned (OpenSpec.ofChange inodeRightWrong)

/-- 'codexlaw8.InodeFinds': WHATEVER THE INPUT: true; the input reads as it did. -/
def inodeFindsSpec : ChangeSpec := { name := "inodeFinds", fn := fun _ => fun
  | [d1, d2] => { results := [.lit (.bool true)], args := [d1, d2] }
  | _ => none }
def inodeFindsRow : OpenClaim := { program := "yteemloillnfaeaadoor", sum := "8e47619ee84a52877671fb28edfdfe6caf6bc15d47b11bfca1dd8b9eb6bcbd91", func := "codex/codexlaw8.InodeFinds", spec := "inodeFinds", inPlace := ["internal/bytealg.IndexByteString", "internal/bytealg.IndexString", "internal/abi.NoEscape", "internal/bytealg.MakeNoZero"], unfollowed := true, recurses := true, named := ["unicode/utf8.first", "unicode/utf8.acceptRanges", "internal/bytealg.MaxLen"], apart := false, laid := [("unicode/utf8.acceptRanges", laid_unicode_utf8_acceptRanges), ("unicode/utf8.first", laid_unicode_utf8_first)] }
def InodeFindsSaid : Prop := inodeFindsRow.holds Tryd.pinned (OpenSpec.ofChange inodeFindsSpec)

/-- ITS FALSE NEIGHBOUR: 'it returns false'. Refute it at one input. -/
def inodeFindsWrong : ChangeSpec := { name := "inodeFinds", fn := fun _ => fun
  | [d1, d2] => { results := [.lit (.bool false)], args := [d1, d2] }
  | _ => none }
def InodeFindsWrongFalsely : Prop := inodeFindsRow.holds Tryd.pinned (OpenSpec.ofChange inodeFindsWrong)

/- THE SECOND FORM. 'bulk': how many values and letters a reading holds, each counted each time it is reached (what is shared counts as often as it is met; a slice's spare places count too). A statement '..UptoSaid' is the law's where the arguments, and the package variables that the reading takes, are together of bulk at most 1048576: NARROWER than '..Said'. Prove '..Said' where nothing that the law and all that it calls make is longer than what came in: it says more and counts as full. Else prove '..UptoSaid'. A law counts once. -/
mutual
def uptoBulk {H : Type} : DataW H → Nat
  | .lit (.string bytes) => bytes.length + 1
  | .lit _ => 1
  | .nil => 1
  | .ptr d => uptoBulk d + 1
  | .slice elems spare => uptoBulkAll elems + uptoBulkAll spare + 1
  | .agg parts => uptoBulkAll parts + 1
  | .iface _ d => uptoBulk d + 1
  | .map entries => uptoBulkEntries entries + 1
  | .held _ => 1
def uptoBulkAll {H : Type} : List (DataW H) → Nat
  | [] => 0
  | d :: r => uptoBulk d + uptoBulkAll r
def uptoBulkEntries {H : Type} : List (Lit × DataW H) → Nat
  | [] => 0
  | x :: r => uptoBulkEntry x + uptoBulkEntries r
def uptoBulkEntry {H : Type} : Lit × DataW H → Nat
  | (.string bytes, d) => bytes.length + uptoBulk d + 1
  | (_, d) => uptoBulk d + 1
 end
def uptoSmall : (H : Type) → List (DataW H) → Bool := fun _ ds => decide (uptoBulkAll ds ≤ 1048576)
def OpenSpec.upto (s : _root_.Go.ChangeSpec) : _root_.Go.OpenSpec := { _root_.Go.OpenSpec.ofChange s with cond := some uptoSmall }

/-- 'codexlaw8.InodePacks', WHERE WHAT IT READS IS OF BULK AT MOST 1048576: true; the input reads as it did. -/
def inodePacksUptoRow : OpenClaim := { program := "yteemloillnfaeaadoor", sum := "8e47619ee84a52877671fb28edfdfe6caf6bc15d47b11bfca1dd8b9eb6bcbd91", func := "codex/codexlaw8.InodePacks", spec := "inodePacks", inPlace := ["internal/bytealg.IndexByteString", "internal/bytealg.IndexString", "internal/abi.NoEscape", "internal/bytealg.MakeNoZero"], unfollowed := true, recurses := true, named := ["unicode/utf8.first", "unicode/utf8.acceptRanges", "internal/bytealg.MaxLen"], apart := false, laid := [("unicode/utf8.acceptRanges", laid_unicode_utf8_acceptRanges), ("unicode/utf8.first", laid_unicode_utf8_first)], narrowed := true }
def InodePacksUptoSaid : Prop := inodePacksUptoRow.holds Tryd.pinned (OpenSpec.upto inodePacksSpec)

/-- 'codexlaw8.InodeReads', WHERE WHAT IT READS IS OF BULK AT MOST 1048576: true; the input reads as it did. -/
def inodeReadsUptoRow : OpenClaim := { program := "yteemloillnfaeaadoor", sum := "8e47619ee84a52877671fb28edfdfe6caf6bc15d47b11bfca1dd8b9eb6bcbd91", func := "codex/codexlaw8.InodeReads", spec := "inodeReads", inPlace := ["internal/bytealg.IndexByteString", "internal/bytealg.IndexString", "internal/abi.NoEscape", "internal/bytealg.MakeNoZero"], unfollowed := true, recurses := true, named := ["unicode/utf8.first", "unicode/utf8.acceptRanges", "internal/bytealg.MaxLen"], apart := false, laid := [("unicode/utf8.acceptRanges", laid_unicode_utf8_acceptRanges), ("unicode/utf8.first", laid_unicode_utf8_first)], narrowed := true }
def InodeReadsUptoSaid : Prop := inodeReadsUptoRow.holds Tryd.pinned (OpenSpec.upto inodeReadsSpec)

/-- 'codexlaw8.InodeBack', WHERE WHAT IT READS IS OF BULK AT MOST 1048576: true; the input reads as it did. -/
def inodeBackUptoRow : OpenClaim := { program := "yteemloillnfaeaadoor", sum := "8e47619ee84a52877671fb28edfdfe6caf6bc15d47b11bfca1dd8b9eb6bcbd91", func := "codex/codexlaw8.InodeBack", spec := "inodeBack", inPlace := ["internal/bytealg.IndexByteString", "internal/bytealg.IndexString", "internal/abi.NoEscape", "internal/bytealg.MakeNoZero"], unfollowed := true, recurses := true, named := ["unicode/utf8.first", "unicode/utf8.acceptRanges", "internal/bytealg.MaxLen"], apart := false, laid := [("unicode/utf8.acceptRanges", laid_unicode_utf8_acceptRanges), ("unicode/utf8.first", laid_unicode_utf8_first)], narrowed := true }
def InodeBackUptoSaid : Prop := inodeBackUptoRow.holds Tryd.pinned (OpenSpec.upto inodeBackSpec)

/-- 'codexlaw8.InodeBounds', WHERE WHAT IT READS IS OF BULK AT MOST 1048576: true; the input reads as it did. -/
def inodeBoundsUptoRow : OpenClaim := { program := "yteemloillnfaeaadoor", sum := "8e47619ee84a52877671fb28edfdfe6caf6bc15d47b11bfca1dd8b9eb6bcbd91", func := "codex/codexlaw8.InodeBounds", spec := "inodeBounds", inPlace := ["internal/bytealg.IndexByteString", "internal/bytealg.IndexString", "internal/abi.NoEscape", "internal/bytealg.MakeNoZero"], unfollowed := true, recurses := true, named := ["unicode/utf8.first", "unicode/utf8.acceptRanges", "internal/bytealg.MaxLen"], apart := false, laid := [("unicode/utf8.acceptRanges", laid_unicode_utf8_acceptRanges), ("unicode/utf8.first", laid_unicode_utf8_first)], narrowed := true }
def InodeBoundsUptoSaid : Prop := inodeBoundsUptoRow.holds Tryd.pinned (OpenSpec.upto inodeBoundsSpec)

/-- 'codexlaw8.InodeSums', WHERE WHAT IT READS IS OF BULK AT MOST 1048576: true; the input reads as it did. -/
def inodeSumsUptoRow : OpenClaim := { program := "yteemloillnfaeaadoor", sum := "8e47619ee84a52877671fb28edfdfe6caf6bc15d47b11bfca1dd8b9eb6bcbd91", func := "codex/codexlaw8.InodeSums", spec := "inodeSums", inPlace := ["internal/bytealg.IndexByteString", "internal/bytealg.IndexString", "internal/abi.NoEscape", "internal/bytealg.MakeNoZero"], unfollowed := true, recurses := true, named := ["unicode/utf8.first", "unicode/utf8.acceptRanges", "internal/bytealg.MaxLen"], apart := false, laid := [("unicode/utf8.acceptRanges", laid_unicode_utf8_acceptRanges), ("unicode/utf8.first", laid_unicode_utf8_first)], narrowed := true }
def InodeSumsUptoSaid : Prop := inodeSumsUptoRow.holds Tryd.pinned (OpenSpec.upto inodeSumsSpec)

/-- 'codexlaw8.InodeRight', WHERE WHAT IT READS IS OF BULK AT MOST 1048576: true; the input reads as it did. -/
def inodeRightUptoRow : OpenClaim := { program := "yteemloillnfaeaadoor", sum := "8e47619ee84a52877671fb28edfdfe6caf6bc15d47b11bfca1dd8b9eb6bcbd91", func := "codex/codexlaw8.InodeRight", spec := "inodeRight", inPlace := ["internal/bytealg.IndexByteString", "internal/bytealg.IndexString", "internal/abi.NoEscape", "internal/bytealg.MakeNoZero"], unfollowed := true, recurses := true, named := ["unicode/utf8.first", "unicode/utf8.acceptRanges", "internal/bytealg.MaxLen"], apart := false, laid := [("unicode/utf8.acceptRanges", laid_unicode_utf8_acceptRanges), ("unicode/utf8.first", laid_unicode_utf8_first)], narrowed := true }
def InodeRightUptoSaid : Prop := inodeRightUptoRow.holds Tryd.pinned (OpenSpec.upto inodeRightSpec)

/-- 'codexlaw8.InodeFinds', WHERE WHAT IT READS IS OF BULK AT MOST 1048576: true; the input reads as it did. -/
def inodeFindsUptoRow : OpenClaim := { program := "yteemloillnfaeaadoor", sum := "8e47619ee84a52877671fb28edfdfe6caf6bc15d47b11bfca1dd8b9eb6bcbd91", func := "codex/codexlaw8.InodeFinds", spec := "inodeFinds", inPlace := ["internal/bytealg.IndexByteString", "internal/bytealg.IndexString", "internal/abi.NoEscape", "internal/bytealg.MakeNoZero"], unfollowed := true, recurses := true, named := ["unicode/utf8.first", "unicode/utf8.acceptRanges", "internal/bytealg.MaxLen"], apart := false, laid := [("unicode/utf8.acceptRanges", laid_unicode_utf8_acceptRanges), ("unicode/utf8.first", laid_unicode_utf8_first)], narrowed := true }
def InodeFindsUptoSaid : Prop := inodeFindsUptoRow.holds Tryd.pinned (OpenSpec.upto inodeFindsSpec)

end Rows
end Go.Proofs.YteemloillnfaeaaDoor
