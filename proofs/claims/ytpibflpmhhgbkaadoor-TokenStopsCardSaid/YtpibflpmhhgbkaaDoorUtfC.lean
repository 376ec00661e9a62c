/- Chapter 10: the closure in Fold. No conditions. -/
import Derived.Test.YtpibflpmhhgbkaaDoorUtfB
namespace Go.Proofs.YtpibflpmhhgbkaaDoor
open Go.RowKit Go.Utf

theorem fold1_in (r a b : Int) (g : Nat) (w : World) (hc : w.cell? ⟨g, 0, none⟩ = some (.int .i64 r)) : Calls Tryd.prog 46 #[.int .i64 a, .int .i64 b, .pointer (some ⟨g, 0, none⟩)] w fun e w' => e = .returned (.bool (inB r a b)) ∧ w = w' := by
  unfold inB
  by_cases h1 : a ≤ r
  · rw [decide_eq_true h1]
    go_enter Tryd.func46, Tryd.ntmps46
    go_wp2
    go_ret
    exact ⟨rfl, rfl⟩
  · have h3 : r < a := by omega
    rw [decide_eq_false h1]
    clear h1
    go_enter Tryd.func46, Tryd.ntmps46
    go_wp2
    go_ret
    exact ⟨rfl, rfl⟩
end Go.Proofs.YtpibflpmhhgbkaaDoor
