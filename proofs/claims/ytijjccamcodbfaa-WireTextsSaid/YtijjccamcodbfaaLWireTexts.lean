/- The law WireTexts returns true for every three texts. Condition: their lengths fit an int. -/
import Derived.Test.YtijjccamcodbfaaShown2
import Derived.Test.YtijjccamcodbfaaSame2
namespace Go.Proofs.Ytijjccamcodbfaa
open Go.RowKit Go.Wir

set_option maxRecDepth 100000 in
set_option maxHeartbeats 1600000 in
theorem walk_WireTexts (a b s : ByteArray) (ha : a.size ≤ maxLen) (hb : b.size ≤ maxLen) (hs : s.size ≤ maxLen) (w : World) :
    Calls Try.prog 5 #[.string a, .string b, .string s] w fun e w' => e = .returned (.bool true) ∧ Below w.heap.size w w' := by
  unfold maxLen at ha hb hs
  by_cases h1 : 3000 < a.size
  · go_enter Try.func5, Try.ntmps5
    go_wp2_with fail
    refine (shown2 w).mono ?_
    rintro e w1 ⟨rfl, b1⟩
    go_wp2
    go_ret
    exact ⟨rfl, b1⟩
  by_cases h2 : 3000 < b.size
  · go_enter Try.func5, Try.ntmps5
    go_wp2_with fail
    refine (shown2 w).mono ?_
    rintro e w1 ⟨rfl, b1⟩
    go_wp2
    go_ret
    exact ⟨rfl, b1⟩
  by_cases h3 : 3000 < s.size
  · go_enter Try.func5, Try.ntmps5
    go_wp2_with fail
    refine (shown2 w).mono ?_
    rintro e w1 ⟨rfl, b1⟩
    go_wp2
    go_ret
    exact ⟨rfl, b1⟩
  obtain ⟨fn, fr, ft, F1, F2⟩ := toText_same s hs
  have HF1 := Lib.hid F1
  have HF2 := Lib.hid F2
  clear F1 F2
  have e1 : B (textsL [a, b]) = B (textL (L a)) ++ B (textL (L b)) := by rw [B_append]; simp [textsL]
  have h10 : (B (textL (L a))).size ≤ 3010 := by have := textL_length (L a); rw [size_B]; rw [length_L] at this; omega
  have h11 : (B (textL (L b))).size ≤ 3010 := by have := textL_length (L b); rw [size_B]; rw [length_L] at this; omega
  go_enter Try.func5, Try.ntmps5
  go_wp2_with fail
  refine (shown2 w).mono ?_
  rintro e w1 ⟨rfl, b1⟩
  have B1 := Lib.hid (step_call (Below.refl _ w) b1)
  clear b1
  go_wp2_with fail
  refine (HF1.out _).mono ?_
  rintro e w2 ⟨rfl, b2⟩
  have B2 := Lib.hid (step_call B1.out b2)
  clear b2
  go_wp2_with fail
  refine (HF2.out _).mono ?_
  rintro e w3 ⟨rfl, b3⟩
  have B3 := Lib.hid (step_call B2.out b3)
  clear b3
  go_wp2_with fail
  refine (wire_Text _ [a, b] _ (Row.new w3 [.string a, .string b] 9) (by simp [sizes]; omega)).mono ?_
  rintro e w4 ⟨rfl, b4⟩
  have B4 := Lib.hid (step_alloc B3.out b4)
  clear b4
  go_wp2_with fail
  refine (ref2_Text _ (by omega) _).mono ?_
  rintro e w5 ⟨rfl, b5⟩
  have B5 := Lib.hid (step_call B4.out b5)
  clear b5
  go_wp2_with fail
  refine (ref2_Text _ (by omega) _).mono ?_
  rintro e w6 ⟨rfl, b6⟩
  have B6 := Lib.hid (step_call B5.out b6)
  clear b6
  go_wp2
  go_ret
  exact ⟨rfl, B6.out⟩
end Go.Proofs.Ytijjccamcodbfaa
