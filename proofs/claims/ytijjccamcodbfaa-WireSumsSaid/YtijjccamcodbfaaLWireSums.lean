/- The law WireSums returns true for every three texts. Condition: their lengths fit an int. -/
import Derived.Test.YtijjccamcodbfaaShown2
import Derived.Test.YtijjccamcodbfaaRef2Crc
namespace Go.Proofs.Ytijjccamcodbfaa
open Go.RowKit Go.Wir

set_option maxRecDepth 100000 in
set_option maxHeartbeats 1600000 in
theorem walk_WireSums (a b c : ByteArray) (ha : a.size ≤ maxLen) (hb : b.size ≤ maxLen) (hc : c.size ≤ maxLen) (w : World) :
    Calls Try.prog 3 #[.string a, .string b, .string c] w fun e w' => e = .returned (.bool true) ∧ Below w.heap.size w w' := by
  unfold maxLen at ha hb hc
  by_cases hbig : 3000 < a.size ∨ 3000 < b.size ∨ 3000 < c.size
  · have H := Lib.hid hbig
    clear hbig
    go_enter Try.func3, Try.ntmps3
    go_wp2_with fail
    refine (shown2 w).mono ?_
    rintro e w1 ⟨rfl, b1⟩
    rcases H.out with h | h | h
    · go_wp2
      go_ret
      exact ⟨rfl, b1⟩
    · by_cases h2 : 3000 < a.size
      · go_wp2
        go_ret
        exact ⟨rfl, b1⟩
      · go_wp2
        go_ret
        exact ⟨rfl, b1⟩
    · by_cases h2 : 3000 < a.size
      · go_wp2
        go_ret
        exact ⟨rfl, b1⟩
      · by_cases h3 : 3000 < b.size
        · go_wp2
          go_ret
          exact ⟨rfl, b1⟩
        · go_wp2
          go_ret
          exact ⟨rfl, b1⟩
  · have h1 : a.size ≤ 3000 := by omega
    have h2 : b.size ≤ 3000 := by omega
    have h3 : c.size ≤ 3000 := by omega
    clear hbig ha hb hc
    have e1 : partsL [a, b, c] = L (a ++ b ++ c) := by simp [partsL, L_append]
    have e2 : partsL [a ++ b ++ c] = L (a ++ b ++ c) := by simp [partsL]
    have e3 : partsL [a] = L a := by simp [partsL]
    have hsz : (a ++ b ++ c).size ≤ 9000 := by rw [← length_L, L_append, L_append, List.length_append, List.length_append, length_L, length_L, length_L]; omega
    go_enter Try.func3, Try.ntmps3
    go_wp2_with fail
    refine (shown2 w).mono ?_
    rintro e w1 ⟨rfl, b1⟩
    have B1 := Lib.hid b1
    clear b1
    go_wp2_with fail
    refine (wire_Crc _ [a, b, c] _ (Row.new w1 [.string a, .string b, .string c] 9) (by simp) (by intro s hs; simp at hs; rcases hs with rfl | rfl | rfl <;> omega)).mono ?_
    rintro e w2 ⟨rfl, b2⟩
    have B2 := Lib.hid (step_alloc B1.out b2)
    clear b2
    go_wp2_with fail
    refine (ref2_Crc _ (by omega) _).mono ?_
    rintro e w3 ⟨rfl, b3⟩
    have B3 := Lib.hid (step_call B2.out b3)
    clear b3
    go_wp2_with fail
    refine (wire_Crc _ [a ++ b ++ c] _ (Row.new w3 [.string (a ++ b ++ c)] 9) (by simp) (by intro s hs; simp at hs; subst hs; omega)).mono ?_
    rintro e w4 ⟨rfl, b4⟩
    have B4 := Lib.hid (step_alloc B3.out b4)
    clear b4
    go_wp2_with fail
    refine (wire_Crc _ [a, b, c] _ (Row.new w4 [.string a, .string b, .string c] 9) (by simp) (by intro s hs; simp at hs; rcases hs with rfl | rfl | rfl <;> omega)).mono ?_
    rintro e w5 ⟨rfl, b5⟩
    have B5 := Lib.hid (step_alloc B4.out b5)
    clear b5
    go_wp2_with fail
    refine (wire_Crc _ [a] _ (Row.new w5 [.string a] 9) (by simp) (by intro s hs; simp at hs; subst hs; omega)).mono ?_
    rintro e w6 ⟨rfl, b6⟩
    have B6 := Lib.hid (step_alloc B5.out b6)
    clear b6
    go_wp2_with fail
    refine (ref2_Crc _ (by omega) _).mono ?_
    rintro e w7 ⟨rfl, b7⟩
    have B7 := Lib.hid (step_call B6.out b7)
    clear b7
    go_wp2
    go_ret
    exact ⟨rfl, B7.out⟩
end Go.Proofs.Ytijjccamcodbfaa
