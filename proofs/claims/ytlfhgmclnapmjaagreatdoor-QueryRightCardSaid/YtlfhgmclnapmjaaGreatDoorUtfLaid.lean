/- Chapter 10's tables, out of what the row lists. No conditions. -/
import Derived.Test.YtlfhgmclnapmjaaGreatDoorUtfTabs
import Derived.Test.YtlfhgmclnapmjaaGreatDoorRows
namespace Go.Proofs.YtlfhgmclnapmjaaGreatDoor
open Go.Lib Go.Utf
set_option maxRecDepth 100000 in
theorem laid_tabs {w : World} {l : List (String × DataW Unit)} (h : laidMet Tryz.prog l w) (h1 : ("unicode/utf8.first", Rows.laid_unicode_utf8_first) ∈ l) (h2 : ("unicode/utf8.acceptRanges", Rows.laid_unicode_utf8_acceptRanges) ∈ l) (h3 : ("codex/utf.spans", Rows.laid_codex_utf_spans) ∈ l) : Tabs w :=
  tabs_of_reads (laidMet.reads h (by rw [show firstData = Rows.laid_unicode_utf8_first by kernel_rfl]; exact h1)) (laidMet.reads h (by rw [show acceptData = Rows.laid_unicode_utf8_acceptRanges by kernel_rfl]; exact h2)) (laidMet.reads h (by rw [show spansData = Rows.laid_codex_utf_spans by kernel_rfl]; exact h3))
end Go.Proofs.YtlfhgmclnapmjaaGreatDoor
