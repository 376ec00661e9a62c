/- Tokens of joined texts, plain. No conditions. -/
import Derived.Test.YtpibflpmhhgbkaaDoorTokAsc
namespace Go.Utf
open Go.Lib
theorem words_blank (a b : List UInt8) : wordsL (a ++ 32 :: b) = wordsL a ++ wordsL b := words_part a b (r := 32) (by decide) (by decide +kernel)
/-- Behind a text and a blank the places go on where its words end. -/
theorem tokens_join (a b : List UInt8) : tokensL (a ++ 32 :: b) = tokensL a ++ (tokensL b).map fun x => (x.1, x.2 + (wordsL a).length) := by
  unfold tokensL
  rw [words_blank, toks_append]
  congr 1
  exact toks_shift 0 _ _
theorem words_zz : wordsL [122, 122] = [[122, 122]] := by
  have : wordsL [122, 122] = ascW [122, 122] := by unfold wordsL ascW; rw [chunks_asc _ (by decide)]
  rw [this]; decide +kernel
theorem tokens_zz : tokensL [122, 122] = [([122, 122], 0)] := by
  rw [asc_tokens _ (by decide +kernel) (by decide +kernel)]; decide +kernel
/-- A word that tells nothing, put ahead and behind. -/
theorem tokens_around (st s : List UInt8) (h1 : (wordsL st).length = 1) (h2 : tokensL st = []) : tokensL (st ++ 32 :: (s ++ 32 :: st)) = (tokensL s).map fun x => (x.1, x.2 + 1) := by
  rw [tokens_join, tokens_join, h2, h1]
  simp
def stopsT : List (List UInt8) := stopT ++ [[97, 97, 97, 97, 97, 97, 97, 97, 97, 97, 98, 98, 98, 98, 98, 98, 98, 98, 98, 98, 99, 99, 99, 99, 99, 99, 99, 99, 99, 99, 100, 100, 100, 100, 100, 100, 100, 100, 100, 100, 120]]
set_option maxRecDepth 100000 in
theorem stops_all : (stopsT.all fun st => ascB st && (ascW st).all ascB && decide ((ascW st).length = 1) && decide (ascT 0 (ascW st) = [])) = true := by decide +kernel
theorem stops_word (st : List UInt8) (h : st ∈ stopsT) : (wordsL st).length = 1 ∧ tokensL st = [] ∧ st.length ≤ 41 := by
  have hl : (stopsT.all fun st => decide (st.length ≤ 41)) = true := by decide +kernel
  have := List.all_eq_true.1 stops_all st h
  simp only [Bool.and_eq_true, decide_eq_true_eq] at this
  obtain ⟨⟨⟨h1, h2⟩, h3⟩, h4⟩ := this
  refine ⟨?_, ?_, by simpa using List.all_eq_true.1 hl st h⟩
  · have e : wordsL st = ascW st := by unfold wordsL ascW; rw [chunks_asc st h1]
    rw [e, h3]
  · rw [asc_tokens st h1 h2, h4]
end Go.Utf
