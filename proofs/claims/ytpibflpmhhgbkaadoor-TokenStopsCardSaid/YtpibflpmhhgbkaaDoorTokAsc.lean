/- Tokens of texts of small bytes, to be computed. Condition: each byte is less than 128. -/
import Derived.Test.YtpibflpmhhgbkaaDoorTokSet
namespace Go.Utf
open Go.Lib
def ascB (l : List UInt8) : Bool := l.all fun b => decide (b.toNat < 128)
def ascC (l : List UInt8) : List (Int × List UInt8) := l.map fun b => ((b.toNat : Int), [b])
theorem asc_rune (b : UInt8) (h : b.toNat < 128) : isB (b.toNat : Int) = true ∧ runeT (b.toNat : Int) = [b] := by
  constructor
  · rw [isB_iff]; omega
  · unfold runeT encodeRune
    rw [encodeRuneZ_one (by omega) (by omega)]
    show [(Int.toNat ((b.toNat : Nat) : Int)).toUInt8] = [b]
    rw [Int.toNat_natCast]
    congr 1
    apply UInt8.toNat_inj.1
    simp
theorem chunks_asc (l : List UInt8) (h : ascB l = true) : chunks l = ascC l := by
  induction l with
  | nil => rw [chunks_nil]; rfl
  | cons b l ih =>
    unfold ascB at h
    rw [List.all_cons, Bool.and_eq_true, decide_eq_true_eq] at h
    obtain ⟨h1, h2⟩ := asc_rune b h.1
    have := chunks_rune h1 l
    rw [h2] at this
    rw [show b :: l = [b] ++ l from rfl, this, ih h.2]
    rfl
def ascW (l : List UInt8) : List (List UInt8) := (groups isW (ascC l)).map joinC
def ascF (l : List UInt8) : List UInt8 := joinC ((ascC l).map foldC)
def ascT : Nat → List (List UInt8) → List (List UInt8 × Nat)
  | _, [] => []
  | n, w :: ws => (if goodB (ascF w) then [(ascF w, n)] else []) ++ ascT (n + 1) ws
theorem asc_toks (ws : List (List UInt8)) (h : ws.all ascB = true) : ∀ n, toksFrom n ws = ascT n ws := by
  induction ws with
  | nil => intro n; rfl
  | cons w ws ih =>
    intro n
    rw [List.all_cons, Bool.and_eq_true] at h
    unfold toksFrom ascT
    rw [ih h.2]
    have : foldL w = ascF w := by unfold foldL ascF; rw [chunks_asc w h.1]
    rw [this]
/-- The tokens of such a text, computed. -/
theorem asc_tokens (l : List UInt8) (h : ascB l = true) (h2 : (ascW l).all ascB = true) : tokensL l = ascT 0 (ascW l) := by
  unfold tokensL
  have : wordsL l = ascW l := by unfold wordsL ascW; rw [chunks_asc l h]
  rw [this, asc_toks _ h2]
set_option maxRecDepth 100000 in
theorem tok_ex1 : tokensL [84, 104, 101, 32, 113, 117, 105, 99, 107, 44, 32, 98, 114, 111, 119, 110, 45, 102, 111, 120, 32, 116, 104, 101, 32, 50, 110, 100] = [([113, 117, 105, 99, 107], 1), ([98, 114, 111, 119, 110], 2), ([102, 111, 120], 3), ([50, 110, 100], 5)] := by
  rw [asc_tokens _ (by decide +kernel) (by decide +kernel)]
  decide +kernel
set_option maxRecDepth 100000 in
theorem tok_ex2 : tokensL [98, 32, 97, 49, 32, 66, 32, 122, 122] = [([98], 0), ([97, 49], 1), ([98], 2), ([122, 122], 3)] := by
  rw [asc_tokens _ (by decide +kernel) (by decide +kernel)]
  decide +kernel
end Go.Utf
