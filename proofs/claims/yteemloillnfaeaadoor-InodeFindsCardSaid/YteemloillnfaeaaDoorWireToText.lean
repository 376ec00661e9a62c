/- wire.ToText: a text read from bytes, or refused, as the plain function has it. Condition: the text's length fits an int. -/
import Derived.Test.YteemloillnfaeaaDoorWireToVar
namespace Go.Proofs.YteemloillnfaeaaDoor
open Go.RowKit Go.Wir

/-- What ToText answers. -/
def toTextV : Option (List UInt8 × List UInt8) → Value
  | none => .tuple #[.string ⟨#[]⟩, .string ⟨#[]⟩, .bool false]
  | some (t, r) => .tuple #[.string (B t), .string (B r), .bool true]

set_option maxRecDepth 100000 in
set_option maxHeartbeats 400000 in
theorem wire_ToText (s : ByteArray) (hs : s.size ≤ 9223372036854775807) (w : World) :
    Calls Tryd.prog 56 #[.string s] w fun e w' => e = .returned (toTextV (toTextL (L s))) ∧ Below w.heap.size w w' := by
  rcases h : toVarL (L s) with _ | ⟨n, r⟩
  · have hr : Hid (toTextL (L s) = none) := Lib.hid (by unfold toTextL; rw [h])
    have H := Lib.hid h
    clear h
    go_enter Tryd.func56, Tryd.ntmps56
    go_wp2_with fail
    refine (wire_ToVar_none s hs H.out w).mono ?_
    rintro e w1 ⟨rfl, hb⟩
    go_wp2
    go_ret3
    exact ⟨by rw [hr.out]; rfl, hb⟩
  · have hle := toVarL_le h
    rw [length_L] at hle
    have hz := size_B r
    have H := Lib.hid h
    by_cases hn : n ≤ r.length
    · have e1 : (B r).extract 0 n = B (r.take n) := extract_take (B r) n
      have e2 : (B r).extract n r.length = B (r.drop n) := by have := extract_to_end (B r) n; rw [size_B] at this; exact this
      have hr : Hid (toTextL (L s) = some (r.take n, r.drop n)) := Lib.hid (by unfold toTextL; rw [h]; simp only; rw [if_pos hn])
      clear h
      go_enter Tryd.func56, Tryd.ntmps56
      go_wp2_with fail
      refine (wire_ToVar_some s n r hs H.out w).mono ?_
      rintro e w1 ⟨rfl, hb⟩
      go_wp2
      go_quiet (fail)
      go_wp2
      go_ret3
      exact ⟨by rw [hr.out]; rfl, below_drewN hb _⟩
    · have hr : Hid (toTextL (L s) = none) := Lib.hid (by unfold toTextL; rw [h]; simp only; rw [if_neg hn])
      clear h
      go_enter Tryd.func56, Tryd.ntmps56
      go_wp2_with fail
      refine (wire_ToVar_some s n r hs H.out w).mono ?_
      rintro e w1 ⟨rfl, hb⟩
      go_wp2
      go_ret3
      exact ⟨by rw [hr.out]; rfl, hb⟩

theorem wire_ToText_none (s : ByteArray) (hs : s.size ≤ 9223372036854775807) (h : toTextL (L s) = none) (w : World) :
    Calls Tryd.prog 56 #[.string s] w fun e w' => e = .returned (.tuple #[.string ⟨#[]⟩, .string ⟨#[]⟩, .bool false]) ∧ Below w.heap.size w w' := by
  have := wire_ToText s hs w
  rw [h] at this; exact this
theorem wire_ToText_some (s : ByteArray) (t r : List UInt8) (hs : s.size ≤ 9223372036854775807) (h : toTextL (L s) = some (t, r)) (w : World) :
    Calls Tryd.prog 56 #[.string s] w fun e w' => e = .returned (.tuple #[.string (B t), .string (B r), .bool true]) ∧ Below w.heap.size w w' := by
  have := wire_ToText s hs w
  rw [h] at this; exact this
end Go.Proofs.YteemloillnfaeaaDoor
