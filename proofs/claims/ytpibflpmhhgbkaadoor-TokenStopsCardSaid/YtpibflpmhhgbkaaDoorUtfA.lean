/- Chapter 10: the reference's in and Is. No conditions. -/
import Derived.Test.YtpibflpmhhgbkaaDoorBase
import Derived.Test.YtpibflpmhhgbkaaDoorUtfPlain
import Derived.WalkMore
namespace Go.Proofs.YtpibflpmhhgbkaaDoor
open Go.RowKit Go.Utf

theorem ref10_in (r a b : Int) (w : World) : Calls Tryd.prog 32 #[.int .i64 r, .int .i64 a, .int .i64 b] w fun e w' => e = .returned (.bool (inB r a b)) ∧ w = w' := by
  unfold inB
  by_cases h1 : a ≤ r
  · rw [decide_eq_true h1]
    go_enter Tryd.func32, Tryd.ntmps32
    go_wp2
    go_ret
    exact ⟨rfl, rfl⟩
  · have h3 : r < a := by omega
    rw [decide_eq_false h1]
    clear h1
    go_enter Tryd.func32, Tryd.ntmps32
    go_wp2
    go_ret
    exact ⟨rfl, rfl⟩
theorem ref10_Is (r : Int) (w : World) : Calls Tryd.prog 33 #[.int .i64 r] w fun e w' => e = .returned (.bool (isB r)) ∧ w = w' := by
  unfold isB inB
  by_cases h1 : 0 ≤ r
  · by_cases h2 : r ≤ 1114111
    · rw [decide_eq_true h1, decide_eq_true h2]
      go_enter Tryd.func33, Tryd.ntmps33
      go_wp2
      all_goals
        go_ret
        exact ⟨by first | rfl | simp_all, rfl⟩
    · have h3 : 1114111 < r := by omega
      rw [decide_eq_true h1, decide_eq_false h2]
      clear h2
      go_enter Tryd.func33, Tryd.ntmps33
      go_wp2
      go_ret
      exact ⟨by first | rfl | simp_all, rfl⟩
  · have h3 : r < 0 := by omega
    rw [decide_eq_false h1]
    clear h1
    go_enter Tryd.func33, Tryd.ntmps33
    go_wp2
    go_ret
    exact ⟨rfl, rfl⟩
end Go.Proofs.YtpibflpmhhgbkaaDoor
