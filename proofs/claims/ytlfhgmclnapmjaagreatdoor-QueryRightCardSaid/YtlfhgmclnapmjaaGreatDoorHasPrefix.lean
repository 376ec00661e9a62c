/- strings.HasPrefix. No conditions. -/
import Derived.Test.YtlfhgmclnapmjaaGreatDoorHeld
namespace Go.Proofs.YtlfhgmclnapmjaaGreatDoor
open Go.RowKit

set_option maxRecDepth 100000 in
theorem has_prefix (a b : ByteArray) (w : World) :
    Calls Tryz.prog 39 #[.string a, .string b] w fun e w' => e = .returned (.bool ((L b).isPrefixOf (L a))) ∧ Below w.heap.size w w' := by
  by_cases h : b.size ≤ a.size
  · have h1 : (b.size : Int) ≤ (a.size : Int) := by omega
    go_enter Tryz.func39, Tryz.ntmps39
    go_wp2
    go_ret
    refine ⟨?_, Below.refl _ _⟩
    have e : (L b).isPrefixOf (L a) = ((a.extract 0 b.size).toList == b.toList) := by
      rw [extract_take, toList_B, toList_L, Bool.eq_iff_iff, List.isPrefixOf_iff_prefix, beq_iff_eq, List.prefix_iff_eq_take, length_L]
      exact eq_comm
    rw [e]
    simp
  · have h1 : ¬ (b.size : Int) ≤ (a.size : Int) := by omega
    go_enter Tryz.func39, Tryz.ntmps39
    go_wp2
    go_ret
    refine ⟨?_, Below.refl _ _⟩
    have e : (L b).isPrefixOf (L a) = false := by
      rw [← Bool.not_eq_true, List.isPrefixOf_iff_prefix]
      intro hp
      have := hp.length_le
      rw [length_L, length_L] at this
      exact h this
    rw [e]
    first | rfl | simp [h]
end Go.Proofs.YtlfhgmclnapmjaaGreatDoor
