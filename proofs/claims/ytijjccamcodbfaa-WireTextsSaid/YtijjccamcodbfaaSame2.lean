/- Chapter 2: the program and the reference read alike: one answer for both. Condition: the text's length fits an int. -/
import Derived.Test.YtijjccamcodbfaaWireToText
import Derived.Test.YtijjccamcodbfaaRef2Text
import Derived.Test.YtijjccamcodbfaaFixed
namespace Go.Proofs.Ytijjccamcodbfaa
open Go.RowKit Go.Wir

theorem toFixed_same (s : ByteArray) (hs : s.size ≤ 9223372036854775807) : ∃ (n : Int) (r : ByteArray) (t : Bool),
    (∀ w, Calls Try.prog 14 #[.string s] w fun e w' => e = .returned (.tuple #[.int .u32 n, .string r, .bool t]) ∧ Below w.heap.size w w') ∧
    (∀ w, Calls Try.prog 15 #[.string s] w fun e w' => e = .returned (.tuple #[.int .u32 n, .string r, .bool t]) ∧ Below w.heap.size w w') := by
  by_cases h : s.size < 4
  · exact ⟨0, ⟨#[]⟩, false, wire_ToFixed_none s h, ref2_ToFixed_none s h⟩
  · exact ⟨_, _, true, wire_ToFixed_some s hs (by omega), ref2_ToFixed_some s hs (by omega)⟩
theorem toVar_same (s : ByteArray) (hs : s.size ≤ 9223372036854775807) : ∃ (n : Int) (r : ByteArray) (t : Bool),
    (∀ w, Calls Try.prog 16 #[.string s] w fun e w' => e = .returned (.tuple #[.int .u64 n, .string r, .bool t]) ∧ Below w.heap.size w w') ∧
    (∀ w, Calls Try.prog 17 #[.string s] w fun e w' => e = .returned (.tuple #[.int .u64 n, .string r, .bool t]) ∧ Below w.heap.size w w') := by
  rcases h : toVarL (L s) with _ | ⟨n, r⟩
  · exact ⟨0, ⟨#[]⟩, false, wire_ToVar_none s hs h, ref2_ToVar_none s hs h⟩
  · exact ⟨_, _, true, wire_ToVar_some s n r hs h, ref2_ToVar_some s n r hs h⟩
theorem toText_same (s : ByteArray) (hs : s.size ≤ 9223372036854775807) : ∃ (n : ByteArray) (r : ByteArray) (t : Bool),
    (∀ w, Calls Try.prog 22 #[.string s] w fun e w' => e = .returned (.tuple #[.string n, .string r, .bool t]) ∧ Below w.heap.size w w') ∧
    (∀ w, Calls Try.prog 23 #[.string s] w fun e w' => e = .returned (.tuple #[.string n, .string r, .bool t]) ∧ Below w.heap.size w w') := by
  rcases h : toTextL (L s) with _ | ⟨n, r⟩
  · exact ⟨⟨#[]⟩, ⟨#[]⟩, false, wire_ToText_none s hs h, ref2_ToText_none s hs h⟩
  · exact ⟨_, _, true, wire_ToText_some s n r hs h, ref2_ToText_some s n r hs h⟩
end Go.Proofs.Ytijjccamcodbfaa
