/-
  NARROWER THAN 'FOR EVERY INPUT', by the rows' own cells (each row's printed sentence says how): QueryRight: loops, laid.
  DERIVED. THE GIVEN ROWS OF THIS SEAT. 1 by the template 'for every input the law returns true; each argument reads behind the call as it read before'; 0 by the template 'total and deterministic' (their statements: YtlfhgmclnapmjaaGreatDoorTotals.lean).
  GIVEN WITH THE SEED: the statements are not yours to turn. If you find one false, say at which input.
  Laid BY PROGRAM, IN A SANDBOX (cutbox-rows.mjs): the forced cells as the released guide's own fill.sh prints them over the translation 108630e753e544be… (all of the seat's roots in one cut). By AI agents, Wed Nov 11 2026. No macro, syntax, notation, axiom, sorry.
-/
import Derived.Test.YtlfhgmclnapmjaaGreatDoorChecked
import GoSem.PinnedTables
import GoSem.Claim
import GoSem.ClaimJoined
import GoSem.ClaimMapViews
import Derived.JoinedTies
import Derived.KernelRfl
namespace Go.Proofs.YtlfhgmclnapmjaaGreatDoor
/- THE CELL 'sum', in the pinned program and in every row, IS THE sha256 OF THE DUMP (.gsa) THAT YtlfhgmclnapmjaaGreatDoorProg.lean LOADS. Nothing in Lean hashes anything: it is a label: what it is worth is what the hold of that sum in a sandbox is worth. -/
noncomputable def Tryz.pinned : Pinned := { name := "ytlfhgmclnapmjaagreatdoor", sum := "108630e753e544be8447b6ec9c14916b933070233d50dce8c8c63b896240533c", checked := Tryz.checked }
namespace Rows
def none {H : Type} : Left H := { results := [], args := [] }

/- WHAT THE LISTED PACKAGE-LEVEL VARIABLES READ AS WHEN THE CALL BEGINS. Each datum BY PROGRAM (the guide's laid-datum.mjs) off the statement by which the dump's own 'gosem.cut.vars' lays the variable. In a bare row this is a premise. The card (YtlfhgmclnapmjaaGreatDoorCards.lean) ties it to the program's text. -/
def laid_unicode_utf8_acceptRanges {H : Type} : DataW H := .agg [.agg [.lit (.int .u8 128), .lit (.int .u8 191)], .agg [.lit (.int .u8 160), .lit (.int .u8 191)], .agg [.lit (.int .u8 128), .lit (.int .u8 159)], .agg [.lit (.int .u8 144), .lit (.int .u8 191)], .agg [.lit (.int .u8 128), .lit (.int .u8 143)], .agg [.lit (.int .u8 0), .lit (.int .u8 0)], .agg [.lit (.int .u8 0), .lit (.int .u8 0)], .agg [.lit (.int .u8 0), .lit (.int .u8 0)], .agg [.lit (.int .u8 0), .lit (.int .u8 0)], .agg [.lit (.int .u8 0), .lit (.int .u8 0)], .agg [.lit (.int .u8 0), .lit (.int .u8 0)], .agg [.lit (.int .u8 0), .lit (.int .u8 0)], .agg [.lit (.int .u8 0), .lit (.int .u8 0)], .agg [.lit (.int .u8 0), .lit (.int .u8 0)], .agg [.lit (.int .u8 0), .lit (.int .u8 0)], .agg [.lit (.int .u8 0), .lit (.int .u8 0)]]
def laid_codex_utf_spans {H : Type} : DataW H := .agg [.agg [.lit (.int .i32 9), .lit (.int .i32 13), .lit (.int .i64 3)], .agg [.lit (.int .i32 32), .lit (.int .i32 32), .lit (.int .i64 3)], .agg [.lit (.int .i32 48), .lit (.int .i32 57), .lit (.int .i64 2)], .agg [.lit (.int .i32 65), .lit (.int .i32 90), .lit (.int .i64 1)], .agg [.lit (.int .i32 97), .lit (.int .i32 122), .lit (.int .i64 1)], .agg [.lit (.int .i32 133), .lit (.int .i32 133), .lit (.int .i64 3)], .agg [.lit (.int .i32 160), .lit (.int .i32 160), .lit (.int .i64 3)], .agg [.lit (.int .i32 170), .lit (.int .i32 170), .lit (.int .i64 1)], .agg [.lit (.int .i32 181), .lit (.int .i32 181), .lit (.int .i64 1)], .agg [.lit (.int .i32 186), .lit (.int .i32 186), .lit (.int .i64 1)], .agg [.lit (.int .i32 192), .lit (.int .i32 214), .lit (.int .i64 1)], .agg [.lit (.int .i32 216), .lit (.int .i32 246), .lit (.int .i64 1)], .agg [.lit (.int .i32 248), .lit (.int .i32 591), .lit (.int .i64 1)], .agg [.lit (.int .i32 880), .lit (.int .i32 884), .lit (.int .i64 1)], .agg [.lit (.int .i32 886), .lit (.int .i32 887), .lit (.int .i64 1)], .agg [.lit (.int .i32 890), .lit (.int .i32 893), .lit (.int .i64 1)], .agg [.lit (.int .i32 895), .lit (.int .i32 895), .lit (.int .i64 1)], .agg [.lit (.int .i32 902), .lit (.int .i32 902), .lit (.int .i64 1)], .agg [.lit (.int .i32 904), .lit (.int .i32 906), .lit (.int .i64 1)], .agg [.lit (.int .i32 908), .lit (.int .i32 908), .lit (.int .i64 1)], .agg [.lit (.int .i32 910), .lit (.int .i32 929), .lit (.int .i64 1)], .agg [.lit (.int .i32 931), .lit (.int .i32 1013), .lit (.int .i64 1)], .agg [.lit (.int .i32 1015), .lit (.int .i32 1153), .lit (.int .i64 1)], .agg [.lit (.int .i32 1162), .lit (.int .i32 1327), .lit (.int .i64 1)], .agg [.lit (.int .i32 1329), .lit (.int .i32 1366), .lit (.int .i64 1)], .agg [.lit (.int .i32 1377), .lit (.int .i32 1415), .lit (.int .i64 1)], .agg [.lit (.int .i32 1488), .lit (.int .i32 1514), .lit (.int .i64 1)], .agg [.lit (.int .i32 1632), .lit (.int .i32 1641), .lit (.int .i64 2)], .agg [.lit (.int .i32 2406), .lit (.int .i32 2415), .lit (.int .i64 2)], .agg [.lit (.int .i32 8192), .lit (.int .i32 8202), .lit (.int .i64 3)], .agg [.lit (.int .i32 8232), .lit (.int .i32 8233), .lit (.int .i64 3)], .agg [.lit (.int .i32 12288), .lit (.int .i32 12288), .lit (.int .i64 3)], .agg [.lit (.int .i32 19968), .lit (.int .i32 40959), .lit (.int .i64 1)], .agg [.lit (.int .i32 44032), .lit (.int .i32 55203), .lit (.int .i64 1)]]
/-- One of Go's own tables, pinned by name: the form's constant. -/
def laid_unicode_utf8_first : DataW Unit := Go.Pinned.utf8First

/-- 'codexlaw17.QueryRight': WHATEVER THE INPUT: true; the input reads as it did. -/
def queryRightSpec : ChangeSpec := { name := "queryRight", fn := fun _ => fun
  | [d1, d2] => { results := [.lit (.bool true)], args := [d1, d2] }
  | _ => none }
def queryRightRow : OpenClaim := { program := "ytlfhgmclnapmjaagreatdoor", sum := "108630e753e544be8447b6ec9c14916b933070233d50dce8c8c63b896240533c", func := "codex/codexlaw17.QueryRight", spec := "queryRight", inPlace := ["internal/abi.NoEscape"], unfollowed := true, recurses := true, named := ["unicode/utf8.first", "unicode/utf8.acceptRanges", "codex/utf.spans"], loops := true, apart := false, laid := [("unicode/utf8.acceptRanges", laid_unicode_utf8_acceptRanges), ("codex/utf.spans", laid_codex_utf_spans), ("unicode/utf8.first", laid_unicode_utf8_first)] }
def QueryRightSaid : Prop := queryRightRow.holds Tryz.pinned (OpenSpec.ofChange queryRightSpec)

/-- ITS FALSE NEIGHBOUR: 'it returns false'. Refute it at one input. -/
def queryRightWrong : ChangeSpec := { name := "queryRight", fn := fun _ => fun
  | [d1, d2] => { results := [.lit (.bool false)], args := [d1, d2] }
  | _ => none }
def QueryRightWrongFalsely : Prop := queryRightRow.holds Tryz.pinned (OpenSpec.ofChange queryRightWrong)

/- THE SECOND FORM. 'bulk': how many values and letters a reading holds, each counted each time it is reached (what is shared counts as often as it is met; a slice's spare places count too). A statement '..UptoSaid' is the law's where the arguments, and the package variables that the reading takes, are together of bulk at most 1048576: NARROWER than '..Said'. Prove '..Said' where nothing that the law and all that it calls make is longer than what came in: it says more and counts as full. Else prove '..UptoSaid'. A law counts once. -/
mutual
def uptoBulk {H : Type} : DataW H → Nat
  | .lit (.string bytes) => bytes.length + 1
  | .lit _ => 1
  | .nil => 1
  | .ptr d => uptoBulk d + 1
  | .slice elems spare => uptoBulkAll elems + uptoBulkAll spare + 1
  | .agg parts => uptoBulkAll parts + 1
  | .iface _ d => uptoBulk d + 1
  | .map entries => uptoBulkEntries entries + 1
  | .held _ => 1
def uptoBulkAll {H : Type} : List (DataW H) → Nat
  | [] => 0
  | d :: r => uptoBulk d + uptoBulkAll r
def uptoBulkEntries {H : Type} : List (Lit × DataW H) → Nat
  | [] => 0
  | x :: r => uptoBulkEntry x + uptoBulkEntries r
def uptoBulkEntry {H : Type} : Lit × DataW H → Nat
  | (.string bytes, d) => bytes.length + uptoBulk d + 1
  | (_, d) => uptoBulk d + 1
 end
def uptoSmall : (H : Type) → List (DataW H) → Bool := fun _ ds => decide (uptoBulkAll ds ≤ 1048576)
def OpenSpec.upto (s : _root_.Go.ChangeSpec) : _root_.Go.OpenSpec := { _root_.Go.OpenSpec.ofChange s with cond := some uptoSmall }

/-- 'codexlaw17.QueryRight', WHERE WHAT IT READS IS OF BULK AT MOST 1048576: true; the input reads as it did. -/
def queryRightUptoRow : OpenClaim := { program := "ytlfhgmclnapmjaagreatdoor", sum := "108630e753e544be8447b6ec9c14916b933070233d50dce8c8c63b896240533c", func := "codex/codexlaw17.QueryRight", spec := "queryRight", inPlace := ["internal/abi.NoEscape"], unfollowed := true, recurses := true, named := ["unicode/utf8.first", "unicode/utf8.acceptRanges", "codex/utf.spans"], loops := true, apart := false, laid := [("unicode/utf8.acceptRanges", laid_unicode_utf8_acceptRanges), ("codex/utf.spans", laid_codex_utf_spans), ("unicode/utf8.first", laid_unicode_utf8_first)], narrowed := true }
def QueryRightUptoSaid : Prop := queryRightUptoRow.holds Tryz.pinned (OpenSpec.upto queryRightSpec)

end Rows
end Go.Proofs.YtlfhgmclnapmjaaGreatDoor
