/- Chapter 10: the reference's in and Is. No conditions. Chapter 10: the reference's Fold. No conditions. Chapter 10: the closure in Fold. No conditions. Chapter 10: Fold. Condition: the number fits an int. Chapter 10: the reference's letter and Kind. No conditions. -/
import Derived.Test.YtlfhgmclnapmjaaGreatDoorBase
import Derived.Test.YtlfhgmclnapmjaaGreatDoorUtfPlain
import Derived.WalkMore
namespace Go.Proofs.YtlfhgmclnapmjaaGreatDoor
open Go.RowKit Go.Utf

theorem ref10_in (r a b : Int) (w : World) : Calls Tryz.prog 82 #[.int .i64 r, .int .i64 a, .int .i64 b] w fun e w' => e = .returned (.bool (inB r a b)) ∧ w = w' := by
  unfold inB
  by_cases h1 : a ≤ r
  · rw [decide_eq_true h1]
    go_enter Tryz.func82, Tryz.ntmps82
    go_wp2
    go_ret
    exact ⟨rfl, rfl⟩
  · have h3 : r < a := by omega
    rw [decide_eq_false h1]
    clear h1
    go_enter Tryz.func82, Tryz.ntmps82
    go_wp2
    go_ret
    exact ⟨rfl, rfl⟩
theorem ref10_Is (r : Int) (w : World) : Calls Tryz.prog 80 #[.int .i64 r] w fun e w' => e = .returned (.bool (isB r)) ∧ w = w' := by
  unfold isB inB
  by_cases h1 : 0 ≤ r
  · by_cases h2 : r ≤ 1114111
    · rw [decide_eq_true h1, decide_eq_true h2]
      go_enter Tryz.func80, Tryz.ntmps80
      go_wp2
      all_goals
        go_ret
        exact ⟨by first | rfl | simp_all, rfl⟩
    · have h3 : 1114111 < r := by omega
      rw [decide_eq_true h1, decide_eq_false h2]
      clear h2
      go_enter Tryz.func80, Tryz.ntmps80
      go_wp2
      go_ret
      exact ⟨by first | rfl | simp_all, rfl⟩
  · have h3 : r < 0 := by omega
    rw [decide_eq_false h1]
    clear h1
    go_enter Tryz.func80, Tryz.ntmps80
    go_wp2
    go_ret
    exact ⟨rfl, rfl⟩
end Go.Proofs.YtlfhgmclnapmjaaGreatDoor
namespace Go.Proofs.YtlfhgmclnapmjaaGreatDoor
open Go.RowKit Go.Utf

theorem in_yes (r a b : Int) (w : World) (h1 : a ≤ r) (h2 : r ≤ b) : Calls Tryz.prog 82 #[.int .i64 r, .int .i64 a, .int .i64 b] w fun e w' => e = .returned (.bool true) ∧ w = w' := by
  have := ref10_in r a b w
  unfold inB at this
  rwa [decide_eq_true h1, decide_eq_true h2] at this
theorem in_lt (r a b : Int) (w : World) (h1 : r < a) : Calls Tryz.prog 82 #[.int .i64 r, .int .i64 a, .int .i64 b] w fun e w' => e = .returned (.bool false) ∧ w = w' := by
  have := ref10_in r a b w
  unfold inB at this
  rwa [decide_eq_false (show ¬ a ≤ r by omega)] at this
theorem in_gt (r a b : Int) (w : World) (h1 : b < r) : Calls Tryz.prog 82 #[.int .i64 r, .int .i64 a, .int .i64 b] w fun e w' => e = .returned (.bool false) ∧ w = w' := by
  have := ref10_in r a b w
  unfold inB at this
  rwa [decide_eq_false (show ¬ r ≤ b by omega), Bool.and_false] at this
set_option maxRecDepth 100000 in
set_option maxHeartbeats 3200000 in
theorem ref10_Fold (r : Int) (w : World) : Calls Tryz.prog 52 #[.int .i64 r] w fun e w' => e = .returned (.int .i64 (foldN r)) ∧ w = w' := by
  by_cases q0 : r ≤ 64
  · have hv : foldN r = r := by unfold foldN; repeat' split <;> omega
    rw [hv]
    have e1 : (r == 962) = false := by rw [beq_eq_false_iff_ne]; omega
    clear hv
    go_enter Tryz.func52, Tryz.ntmps52
    go_wp2_with (go_at_call 82; (first | refine (in_lt _ _ _ _ (by omega)).mono ?_ | refine (in_gt _ _ _ _ (by omega)).mono ?_ | refine (in_yes _ _ _ _ (by omega) (by omega)).mono ?_); rintro e w1 ⟨rfl, rfl⟩)
    go_ret
    exact ⟨rfl, rfl⟩
  by_cases q1 : r ≤ 90
  · have lo : 65 ≤ r := by omega
    have hv : foldN r = r + 32 := by unfold foldN; repeat' split <;> omega
    rw [hv]
    have e1 : (r == 962) = false := by rw [beq_eq_false_iff_ne]; omega
    clear hv
    go_enter Tryz.func52, Tryz.ntmps52
    go_wp2_with (go_at_call 82; (first | refine (in_lt _ _ _ _ (by omega)).mono ?_ | refine (in_gt _ _ _ _ (by omega)).mono ?_ | refine (in_yes _ _ _ _ (by omega) (by omega)).mono ?_); rintro e w1 ⟨rfl, rfl⟩)
    go_ret
    exact ⟨rfl, rfl⟩
  by_cases q2 : r ≤ 191
  · have lo : 91 ≤ r := by omega
    have hv : foldN r = r := by unfold foldN; repeat' split <;> omega
    rw [hv]
    have e1 : (r == 962) = false := by rw [beq_eq_false_iff_ne]; omega
    clear hv
    go_enter Tryz.func52, Tryz.ntmps52
    go_wp2_with (go_at_call 82; (first | refine (in_lt _ _ _ _ (by omega)).mono ?_ | refine (in_gt _ _ _ _ (by omega)).mono ?_ | refine (in_yes _ _ _ _ (by omega) (by omega)).mono ?_); rintro e w1 ⟨rfl, rfl⟩)
    go_ret
    exact ⟨rfl, rfl⟩
  by_cases q3 : r ≤ 214
  · have lo : 192 ≤ r := by omega
    have hv : foldN r = r + 32 := by unfold foldN; repeat' split <;> omega
    rw [hv]
    have e1 : (r == 962) = false := by rw [beq_eq_false_iff_ne]; omega
    have e2 : (r != 215) = true := by rw [bne_iff_ne]; omega
    clear hv
    go_enter Tryz.func52, Tryz.ntmps52
    go_wp2_with (go_at_call 82; (first | refine (in_lt _ _ _ _ (by omega)).mono ?_ | refine (in_gt _ _ _ _ (by omega)).mono ?_ | refine (in_yes _ _ _ _ (by omega) (by omega)).mono ?_); rintro e w1 ⟨rfl, rfl⟩)
    go_ret
    exact ⟨rfl, rfl⟩
  by_cases q4 : r ≤ 215
  · have lo : 215 ≤ r := by omega
    have hv : foldN r = r := by unfold foldN; repeat' split <;> omega
    rw [hv]
    have e1 : (r == 962) = false := by rw [beq_eq_false_iff_ne]; omega
    have e2 : (r != 215) = false := by simp; omega
    clear hv
    go_enter Tryz.func52, Tryz.ntmps52
    go_wp2_with (go_at_call 82; (first | refine (in_lt _ _ _ _ (by omega)).mono ?_ | refine (in_gt _ _ _ _ (by omega)).mono ?_ | refine (in_yes _ _ _ _ (by omega) (by omega)).mono ?_); rintro e w1 ⟨rfl, rfl⟩)
    go_ret
    exact ⟨rfl, rfl⟩
  by_cases q5 : r ≤ 222
  · have lo : 216 ≤ r := by omega
    have hv : foldN r = r + 32 := by unfold foldN; repeat' split <;> omega
    rw [hv]
    have e1 : (r == 962) = false := by rw [beq_eq_false_iff_ne]; omega
    have e2 : (r != 215) = true := by rw [bne_iff_ne]; omega
    clear hv
    go_enter Tryz.func52, Tryz.ntmps52
    go_wp2_with (go_at_call 82; (first | refine (in_lt _ _ _ _ (by omega)).mono ?_ | refine (in_gt _ _ _ _ (by omega)).mono ?_ | refine (in_yes _ _ _ _ (by omega) (by omega)).mono ?_); rintro e w1 ⟨rfl, rfl⟩)
    go_ret
    exact ⟨rfl, rfl⟩
  by_cases q6 : r ≤ 255
  · have lo : 223 ≤ r := by omega
    have hv : foldN r = r := by unfold foldN; repeat' split <;> omega
    rw [hv]
    have e1 : (r == 962) = false := by rw [beq_eq_false_iff_ne]; omega
    clear hv
    go_enter Tryz.func52, Tryz.ntmps52
    go_wp2_with (go_at_call 82; (first | refine (in_lt _ _ _ _ (by omega)).mono ?_ | refine (in_gt _ _ _ _ (by omega)).mono ?_ | refine (in_yes _ _ _ _ (by omega) (by omega)).mono ?_); rintro e w1 ⟨rfl, rfl⟩)
    go_ret
    exact ⟨rfl, rfl⟩
  by_cases q7 : r ≤ 303
  · have lo : 256 ≤ r := by omega
    have hv : foldN r = r + 1 - r % 2 := by unfold foldN; repeat' split <;> omega
    rw [hv]
    have e1 : (r == 962) = false := by rw [beq_eq_false_iff_ne]; omega
    have e3 : r.tmod 2 = r % 2 := Int.tmod_eq_emod_of_nonneg (by omega)
    clear hv
    go_enter Tryz.func52, Tryz.ntmps52
    go_wp2_with (go_at_call 82; (first | refine (in_lt _ _ _ _ (by omega)).mono ?_ | refine (in_gt _ _ _ _ (by omega)).mono ?_ | refine (in_yes _ _ _ _ (by omega) (by omega)).mono ?_); rintro e w1 ⟨rfl, rfl⟩)
    go_ret
    exact ⟨rfl, rfl⟩
  by_cases q8 : r ≤ 312
  · have lo : 304 ≤ r := by omega
    have hv : foldN r = r := by unfold foldN; repeat' split <;> omega
    rw [hv]
    have e1 : (r == 962) = false := by rw [beq_eq_false_iff_ne]; omega
    clear hv
    go_enter Tryz.func52, Tryz.ntmps52
    go_wp2_with (go_at_call 82; (first | refine (in_lt _ _ _ _ (by omega)).mono ?_ | refine (in_gt _ _ _ _ (by omega)).mono ?_ | refine (in_yes _ _ _ _ (by omega) (by omega)).mono ?_); rintro e w1 ⟨rfl, rfl⟩)
    go_ret
    exact ⟨rfl, rfl⟩
  by_cases q9 : r ≤ 328
  · have lo : 313 ≤ r := by omega
    have hv : foldN r = r + r % 2 := by unfold foldN; repeat' split <;> omega
    rw [hv]
    have e1 : (r == 962) = false := by rw [beq_eq_false_iff_ne]; omega
    have e3 : r.tmod 2 = r % 2 := Int.tmod_eq_emod_of_nonneg (by omega)
    clear hv
    go_enter Tryz.func52, Tryz.ntmps52
    go_wp2_with (go_at_call 82; (first | refine (in_lt _ _ _ _ (by omega)).mono ?_ | refine (in_gt _ _ _ _ (by omega)).mono ?_ | refine (in_yes _ _ _ _ (by omega) (by omega)).mono ?_); rintro e w1 ⟨rfl, rfl⟩)
    go_ret
    exact ⟨rfl, rfl⟩
  by_cases q10 : r ≤ 329
  · have lo : 329 ≤ r := by omega
    have hv : foldN r = r := by unfold foldN; repeat' split <;> omega
    rw [hv]
    have e1 : (r == 962) = false := by rw [beq_eq_false_iff_ne]; omega
    clear hv
    go_enter Tryz.func52, Tryz.ntmps52
    go_wp2_with (go_at_call 82; (first | refine (in_lt _ _ _ _ (by omega)).mono ?_ | refine (in_gt _ _ _ _ (by omega)).mono ?_ | refine (in_yes _ _ _ _ (by omega) (by omega)).mono ?_); rintro e w1 ⟨rfl, rfl⟩)
    go_ret
    exact ⟨rfl, rfl⟩
  by_cases q11 : r ≤ 375
  · have lo : 330 ≤ r := by omega
    have hv : foldN r = r + 1 - r % 2 := by unfold foldN; repeat' split <;> omega
    rw [hv]
    have e1 : (r == 962) = false := by rw [beq_eq_false_iff_ne]; omega
    have e3 : r.tmod 2 = r % 2 := Int.tmod_eq_emod_of_nonneg (by omega)
    clear hv
    go_enter Tryz.func52, Tryz.ntmps52
    go_wp2_with (go_at_call 82; (first | refine (in_lt _ _ _ _ (by omega)).mono ?_ | refine (in_gt _ _ _ _ (by omega)).mono ?_ | refine (in_yes _ _ _ _ (by omega) (by omega)).mono ?_); rintro e w1 ⟨rfl, rfl⟩)
    go_ret
    exact ⟨rfl, rfl⟩
  by_cases q12 : r ≤ 376
  · have lo : 376 ≤ r := by omega
    have hv : foldN r = r := by unfold foldN; repeat' split <;> omega
    rw [hv]
    have e1 : (r == 962) = false := by rw [beq_eq_false_iff_ne]; omega
    clear hv
    go_enter Tryz.func52, Tryz.ntmps52
    go_wp2_with (go_at_call 82; (first | refine (in_lt _ _ _ _ (by omega)).mono ?_ | refine (in_gt _ _ _ _ (by omega)).mono ?_ | refine (in_yes _ _ _ _ (by omega) (by omega)).mono ?_); rintro e w1 ⟨rfl, rfl⟩)
    go_ret
    exact ⟨rfl, rfl⟩
  by_cases q13 : r ≤ 382
  · have lo : 377 ≤ r := by omega
    have hv : foldN r = r + r % 2 := by unfold foldN; repeat' split <;> omega
    rw [hv]
    have e1 : (r == 962) = false := by rw [beq_eq_false_iff_ne]; omega
    have e3 : r.tmod 2 = r % 2 := Int.tmod_eq_emod_of_nonneg (by omega)
    clear hv
    go_enter Tryz.func52, Tryz.ntmps52
    go_wp2_with (go_at_call 82; (first | refine (in_lt _ _ _ _ (by omega)).mono ?_ | refine (in_gt _ _ _ _ (by omega)).mono ?_ | refine (in_yes _ _ _ _ (by omega) (by omega)).mono ?_); rintro e w1 ⟨rfl, rfl⟩)
    go_ret
    exact ⟨rfl, rfl⟩
  by_cases q14 : r ≤ 912
  · have lo : 383 ≤ r := by omega
    have hv : foldN r = r := by unfold foldN; repeat' split <;> omega
    rw [hv]
    have e1 : (r == 962) = false := by rw [beq_eq_false_iff_ne]; omega
    clear hv
    go_enter Tryz.func52, Tryz.ntmps52
    go_wp2_with (go_at_call 82; (first | refine (in_lt _ _ _ _ (by omega)).mono ?_ | refine (in_gt _ _ _ _ (by omega)).mono ?_ | refine (in_yes _ _ _ _ (by omega) (by omega)).mono ?_); rintro e w1 ⟨rfl, rfl⟩)
    go_ret
    exact ⟨rfl, rfl⟩
  by_cases q15 : r ≤ 929
  · have lo : 913 ≤ r := by omega
    have hv : foldN r = r + 32 := by unfold foldN; repeat' split <;> omega
    rw [hv]
    have e1 : (r == 962) = false := by rw [beq_eq_false_iff_ne]; omega
    have e2 : (r != 930) = true := by rw [bne_iff_ne]; omega
    clear hv
    go_enter Tryz.func52, Tryz.ntmps52
    go_wp2_with (go_at_call 82; (first | refine (in_lt _ _ _ _ (by omega)).mono ?_ | refine (in_gt _ _ _ _ (by omega)).mono ?_ | refine (in_yes _ _ _ _ (by omega) (by omega)).mono ?_); rintro e w1 ⟨rfl, rfl⟩)
    go_ret
    exact ⟨rfl, rfl⟩
  by_cases q16 : r ≤ 930
  · have lo : 930 ≤ r := by omega
    have hv : foldN r = r := by unfold foldN; repeat' split <;> omega
    rw [hv]
    have e1 : (r == 962) = false := by rw [beq_eq_false_iff_ne]; omega
    have e2 : (r != 930) = false := by simp; omega
    clear hv
    go_enter Tryz.func52, Tryz.ntmps52
    go_wp2_with (go_at_call 82; (first | refine (in_lt _ _ _ _ (by omega)).mono ?_ | refine (in_gt _ _ _ _ (by omega)).mono ?_ | refine (in_yes _ _ _ _ (by omega) (by omega)).mono ?_); rintro e w1 ⟨rfl, rfl⟩)
    go_ret
    exact ⟨rfl, rfl⟩
  by_cases q17 : r ≤ 937
  · have lo : 931 ≤ r := by omega
    have hv : foldN r = r + 32 := by unfold foldN; repeat' split <;> omega
    rw [hv]
    have e1 : (r == 962) = false := by rw [beq_eq_false_iff_ne]; omega
    have e2 : (r != 930) = true := by rw [bne_iff_ne]; omega
    clear hv
    go_enter Tryz.func52, Tryz.ntmps52
    go_wp2_with (go_at_call 82; (first | refine (in_lt _ _ _ _ (by omega)).mono ?_ | refine (in_gt _ _ _ _ (by omega)).mono ?_ | refine (in_yes _ _ _ _ (by omega) (by omega)).mono ?_); rintro e w1 ⟨rfl, rfl⟩)
    go_ret
    exact ⟨rfl, rfl⟩
  by_cases q18 : r ≤ 961
  · have lo : 938 ≤ r := by omega
    have hv : foldN r = r := by unfold foldN; repeat' split <;> omega
    rw [hv]
    have e1 : (r == 962) = false := by rw [beq_eq_false_iff_ne]; omega
    clear hv
    go_enter Tryz.func52, Tryz.ntmps52
    go_wp2_with (go_at_call 82; (first | refine (in_lt _ _ _ _ (by omega)).mono ?_ | refine (in_gt _ _ _ _ (by omega)).mono ?_ | refine (in_yes _ _ _ _ (by omega) (by omega)).mono ?_); rintro e w1 ⟨rfl, rfl⟩)
    go_ret
    exact ⟨rfl, rfl⟩
  by_cases q19 : r ≤ 962
  · have lo : 962 ≤ r := by omega
    have hv : foldN r = 963 := by unfold foldN; repeat' split <;> omega
    rw [hv]
    have e1 : (r == 962) = true := by rw [beq_iff_eq]; omega
    clear hv
    go_enter Tryz.func52, Tryz.ntmps52
    go_wp2_with (go_at_call 82; (first | refine (in_lt _ _ _ _ (by omega)).mono ?_ | refine (in_gt _ _ _ _ (by omega)).mono ?_ | refine (in_yes _ _ _ _ (by omega) (by omega)).mono ?_); rintro e w1 ⟨rfl, rfl⟩)
    go_ret
    exact ⟨rfl, rfl⟩
  by_cases q20 : r ≤ 1023
  · have lo : 963 ≤ r := by omega
    have hv : foldN r = r := by unfold foldN; repeat' split <;> omega
    rw [hv]
    have e1 : (r == 962) = false := by rw [beq_eq_false_iff_ne]; omega
    clear hv
    go_enter Tryz.func52, Tryz.ntmps52
    go_wp2_with (go_at_call 82; (first | refine (in_lt _ _ _ _ (by omega)).mono ?_ | refine (in_gt _ _ _ _ (by omega)).mono ?_ | refine (in_yes _ _ _ _ (by omega) (by omega)).mono ?_); rintro e w1 ⟨rfl, rfl⟩)
    go_ret
    exact ⟨rfl, rfl⟩
  by_cases q21 : r ≤ 1039
  · have lo : 1024 ≤ r := by omega
    have hv : foldN r = r + 80 := by unfold foldN; repeat' split <;> omega
    rw [hv]
    have e1 : (r == 962) = false := by rw [beq_eq_false_iff_ne]; omega
    clear hv
    go_enter Tryz.func52, Tryz.ntmps52
    go_wp2_with (go_at_call 82; (first | refine (in_lt _ _ _ _ (by omega)).mono ?_ | refine (in_gt _ _ _ _ (by omega)).mono ?_ | refine (in_yes _ _ _ _ (by omega) (by omega)).mono ?_); rintro e w1 ⟨rfl, rfl⟩)
    go_ret
    exact ⟨rfl, rfl⟩
  by_cases q22 : r ≤ 1071
  · have lo : 1040 ≤ r := by omega
    have hv : foldN r = r + 32 := by unfold foldN; repeat' split <;> omega
    rw [hv]
    have e1 : (r == 962) = false := by rw [beq_eq_false_iff_ne]; omega
    clear hv
    go_enter Tryz.func52, Tryz.ntmps52
    go_wp2_with (go_at_call 82; (first | refine (in_lt _ _ _ _ (by omega)).mono ?_ | refine (in_gt _ _ _ _ (by omega)).mono ?_ | refine (in_yes _ _ _ _ (by omega) (by omega)).mono ?_); rintro e w1 ⟨rfl, rfl⟩)
    go_ret
    exact ⟨rfl, rfl⟩
  by_cases q23 : r ≤ 1119
  · have lo : 1072 ≤ r := by omega
    have hv : foldN r = r := by unfold foldN; repeat' split <;> omega
    rw [hv]
    have e1 : (r == 962) = false := by rw [beq_eq_false_iff_ne]; omega
    clear hv
    go_enter Tryz.func52, Tryz.ntmps52
    go_wp2_with (go_at_call 82; (first | refine (in_lt _ _ _ _ (by omega)).mono ?_ | refine (in_gt _ _ _ _ (by omega)).mono ?_ | refine (in_yes _ _ _ _ (by omega) (by omega)).mono ?_); rintro e w1 ⟨rfl, rfl⟩)
    go_ret
    exact ⟨rfl, rfl⟩
  by_cases q24 : r ≤ 1153
  · have lo : 1120 ≤ r := by omega
    have hv : foldN r = r + 1 - r % 2 := by unfold foldN; repeat' split <;> omega
    rw [hv]
    have e1 : (r == 962) = false := by rw [beq_eq_false_iff_ne]; omega
    have e3 : r.tmod 2 = r % 2 := Int.tmod_eq_emod_of_nonneg (by omega)
    clear hv
    go_enter Tryz.func52, Tryz.ntmps52
    go_wp2_with (go_at_call 82; (first | refine (in_lt _ _ _ _ (by omega)).mono ?_ | refine (in_gt _ _ _ _ (by omega)).mono ?_ | refine (in_yes _ _ _ _ (by omega) (by omega)).mono ?_); rintro e w1 ⟨rfl, rfl⟩)
    go_ret
    exact ⟨rfl, rfl⟩
  by_cases q25 : r ≤ 1161
  · have lo : 1154 ≤ r := by omega
    have hv : foldN r = r := by unfold foldN; repeat' split <;> omega
    rw [hv]
    have e1 : (r == 962) = false := by rw [beq_eq_false_iff_ne]; omega
    clear hv
    go_enter Tryz.func52, Tryz.ntmps52
    go_wp2_with (go_at_call 82; (first | refine (in_lt _ _ _ _ (by omega)).mono ?_ | refine (in_gt _ _ _ _ (by omega)).mono ?_ | refine (in_yes _ _ _ _ (by omega) (by omega)).mono ?_); rintro e w1 ⟨rfl, rfl⟩)
    go_ret
    exact ⟨rfl, rfl⟩
  by_cases q26 : r ≤ 1215
  · have lo : 1162 ≤ r := by omega
    have hv : foldN r = r + 1 - r % 2 := by unfold foldN; repeat' split <;> omega
    rw [hv]
    have e1 : (r == 962) = false := by rw [beq_eq_false_iff_ne]; omega
    have e3 : r.tmod 2 = r % 2 := Int.tmod_eq_emod_of_nonneg (by omega)
    clear hv
    go_enter Tryz.func52, Tryz.ntmps52
    go_wp2_with (go_at_call 82; (first | refine (in_lt _ _ _ _ (by omega)).mono ?_ | refine (in_gt _ _ _ _ (by omega)).mono ?_ | refine (in_yes _ _ _ _ (by omega) (by omega)).mono ?_); rintro e w1 ⟨rfl, rfl⟩)
    go_ret
    exact ⟨rfl, rfl⟩
  by_cases q27 : r ≤ 1231
  · have lo : 1216 ≤ r := by omega
    have hv : foldN r = r := by unfold foldN; repeat' split <;> omega
    rw [hv]
    have e1 : (r == 962) = false := by rw [beq_eq_false_iff_ne]; omega
    clear hv
    go_enter Tryz.func52, Tryz.ntmps52
    go_wp2_with (go_at_call 82; (first | refine (in_lt _ _ _ _ (by omega)).mono ?_ | refine (in_gt _ _ _ _ (by omega)).mono ?_ | refine (in_yes _ _ _ _ (by omega) (by omega)).mono ?_); rintro e w1 ⟨rfl, rfl⟩)
    go_ret
    exact ⟨rfl, rfl⟩
  by_cases q28 : r ≤ 1327
  · have lo : 1232 ≤ r := by omega
    have hv : foldN r = r + 1 - r % 2 := by unfold foldN; repeat' split <;> omega
    rw [hv]
    have e1 : (r == 962) = false := by rw [beq_eq_false_iff_ne]; omega
    have e3 : r.tmod 2 = r % 2 := Int.tmod_eq_emod_of_nonneg (by omega)
    clear hv
    go_enter Tryz.func52, Tryz.ntmps52
    go_wp2_with (go_at_call 82; (first | refine (in_lt _ _ _ _ (by omega)).mono ?_ | refine (in_gt _ _ _ _ (by omega)).mono ?_ | refine (in_yes _ _ _ _ (by omega) (by omega)).mono ?_); rintro e w1 ⟨rfl, rfl⟩)
    go_ret
    exact ⟨rfl, rfl⟩
  by_cases q29 : r ≤ 1328
  · have lo : 1328 ≤ r := by omega
    have hv : foldN r = r := by unfold foldN; repeat' split <;> omega
    rw [hv]
    have e1 : (r == 962) = false := by rw [beq_eq_false_iff_ne]; omega
    clear hv
    go_enter Tryz.func52, Tryz.ntmps52
    go_wp2_with (go_at_call 82; (first | refine (in_lt _ _ _ _ (by omega)).mono ?_ | refine (in_gt _ _ _ _ (by omega)).mono ?_ | refine (in_yes _ _ _ _ (by omega) (by omega)).mono ?_); rintro e w1 ⟨rfl, rfl⟩)
    go_ret
    exact ⟨rfl, rfl⟩
  by_cases q30 : r ≤ 1366
  · have lo : 1329 ≤ r := by omega
    have hv : foldN r = r + 48 := by unfold foldN; repeat' split <;> omega
    rw [hv]
    have e1 : (r == 962) = false := by rw [beq_eq_false_iff_ne]; omega
    clear hv
    go_enter Tryz.func52, Tryz.ntmps52
    go_wp2_with (go_at_call 82; (first | refine (in_lt _ _ _ _ (by omega)).mono ?_ | refine (in_gt _ _ _ _ (by omega)).mono ?_ | refine (in_yes _ _ _ _ (by omega) (by omega)).mono ?_); rintro e w1 ⟨rfl, rfl⟩)
    go_ret
    exact ⟨rfl, rfl⟩
  · have lo : 1367 ≤ r := by omega
    have hv : foldN r = r := by unfold foldN; repeat' split <;> omega
    rw [hv]
    have e1 : (r == 962) = false := by rw [beq_eq_false_iff_ne]; omega
    clear hv
    go_enter Tryz.func52, Tryz.ntmps52
    go_wp2_with (go_at_call 82; (first | refine (in_lt _ _ _ _ (by omega)).mono ?_ | refine (in_gt _ _ _ _ (by omega)).mono ?_ | refine (in_yes _ _ _ _ (by omega) (by omega)).mono ?_); rintro e w1 ⟨rfl, rfl⟩)
    go_ret
    exact ⟨rfl, rfl⟩
end Go.Proofs.YtlfhgmclnapmjaaGreatDoor
namespace Go.Proofs.YtlfhgmclnapmjaaGreatDoor
open Go.RowKit Go.Utf

theorem fold1_in (r a b : Int) (g : Nat) (w : World) (hc : w.cell? ⟨g, 0, none⟩ = some (.int .i64 r)) : Calls Tryz.prog 89 #[.int .i64 a, .int .i64 b, .pointer (some ⟨g, 0, none⟩)] w fun e w' => e = .returned (.bool (inB r a b)) ∧ w = w' := by
  unfold inB
  by_cases h1 : a ≤ r
  · rw [decide_eq_true h1]
    go_enter Tryz.func89, Tryz.ntmps89
    go_wp2
    go_ret
    exact ⟨rfl, rfl⟩
  · have h3 : r < a := by omega
    rw [decide_eq_false h1]
    clear h1
    go_enter Tryz.func89, Tryz.ntmps89
    go_wp2
    go_ret
    exact ⟨rfl, rfl⟩
end Go.Proofs.YtlfhgmclnapmjaaGreatDoor
namespace Go.Proofs.YtlfhgmclnapmjaaGreatDoor
open Go.RowKit Go.Utf

/-- Whether a number is in a stretch, kept apart from the walk. -/
def InH (r a b : Int) (c : Bool) : Prop := inB r a b = c
theorem InH.bounds {r a b : Int} (h : InH r a b true) : a ≤ r ∧ r ≤ b := by
  unfold InH inB at h
  rw [Bool.and_eq_true, decide_eq_true_eq, decide_eq_true_eq] at h
  exact h
theorem fold1_two (r a b : Int) (g : Nat) (w : World) (hc : w.cell? ⟨g, 0, none⟩ = some (.int .i64 r)) : Calls Tryz.prog 89 #[.int .i64 a, .int .i64 b, .pointer (some ⟨g, 0, none⟩)] w fun e w' => w = w' ∧ ((e = .returned (.bool true) ∧ InH r a b true) ∨ (e = .returned (.bool false) ∧ InH r a b false)) := by
  refine (fold1_in r a b g w hc).mono ?_
  rintro e w' ⟨rfl, rfl⟩
  refine ⟨rfl, ?_⟩
  unfold InH
  cases inB r a b
  · exact .inr ⟨rfl, rfl⟩
  · exact .inl ⟨rfl, rfl⟩
set_option maxRecDepth 100000 in
theorem or_small : ∀ n : Nat, n < 1400 → bits .or .i64 (n : Int) 1 = (n : Int) + 1 - (n : Int) % 2 := by decide +kernel
set_option maxRecDepth 100000 in
theorem and_small : ∀ n : Nat, n < 1400 → bits .and .i64 (n : Int) 1 = (n : Int) % 2 := by decide +kernel
theorem or_of {r : Int} (h0 : 0 ≤ r) (h : r < 1400) : bits .or .i64 r 1 = r + 1 - r % 2 := by
  have := or_small r.toNat (by omega)
  rwa [show ((r.toNat : Nat) : Int) = r by omega] at this
theorem and_of {r : Int} (h0 : 0 ≤ r) (h : r < 1400) : bits .and .i64 r 1 = r % 2 := by
  have := and_small r.toNat (by omega)
  rwa [show ((r.toNat : Nat) : Int) = r by omega] at this
theorem mod2_lo (r : Int) : 0 ≤ r % 2 := by omega
theorem mod2_hi (r : Int) : r % 2 ≤ 1 := by omega
theorem fold_215 : foldN 215 = 215 := by decide
theorem fold_930 : foldN 930 = 930 := by decide
theorem fold_962 : foldN 962 = 963 := by decide
set_option maxRecDepth 100000 in
set_option maxHeartbeats 3200000 in
theorem utf_Fold (r : Int) (w : World) : Calls Tryz.prog 60 #[.int .i64 r] w fun e w' => e = .returned (.int .i64 (foldN r)) ∧ Below w.heap.size w w' := by
  have hbel := Lib.hid (step_new (Below.refl w.heap.size w) (.cells #[.int .i64 r] 3))
  by_cases q1 : r = 215
  · subst q1
    rw [fold_215]
    go_enter Tryz.func60, Tryz.ntmps60
    go_wp2
    go_ret
    exact ⟨rfl, hbel.out⟩
  by_cases q2 : r = 930
  · subst q2
    rw [fold_930]
    go_enter Tryz.func60, Tryz.ntmps60
    go_wp2
    go_ret
    exact ⟨rfl, hbel.out⟩
  have e1 : (r == 215) = false := by rw [beq_eq_false_iff_ne]; exact q1
  have e2 : (r == 930) = false := by rw [beq_eq_false_iff_ne]; exact q2
  have E1 := Lib.hid e1
  have E2 := Lib.hid e2
  clear q1 q2
  have hc : (w.alloc (.cells #[.int .i64 r] 3)).cell? ⟨w.heap.size, 0, none⟩ = some (.int .i64 r) := by
    rw [Lib.cell_of_heap (heap_alloc_new w _)]; rfl
  obtain ⟨v, hv⟩ : ∃ v, foldN r = v := ⟨_, rfl⟩
  rw [hv]
  have Hv := Lib.hid hv
  clear hv
  go_enter Tryz.func60, Tryz.ntmps60
  go_wp2_with fail
  refine (fold1_two r _ _ _ _ hc).mono ?_
  rintro e w1 ⟨rfl, ⟨rfl, h1⟩ | ⟨rfl, h1⟩⟩
  · obtain ⟨lo, hi⟩ := h1.bounds
    go_wp2
    all_goals
      go_ret
      refine ⟨ret_i64 ?_, hbel.out⟩
      rw [← Hv.out, ← fold_eq]
      simp only [InH] at h1
      simp only [foldU, E1.out, E2.out, h1, Bool.or_false, Bool.true_or, if_true, if_false, Bool.false_eq_true]
  go_wp2_with fail
  refine (fold1_two r _ _ _ _ hc).mono ?_
  rintro e w1 ⟨rfl, ⟨rfl, h2⟩ | ⟨rfl, h2⟩⟩
  · obtain ⟨lo, hi⟩ := h2.bounds
    go_wp2
    all_goals
      go_ret
      refine ⟨ret_i64 ?_, hbel.out⟩
      rw [← Hv.out, ← fold_eq]
      simp only [InH] at h1 h2
      simp only [foldU, E1.out, E2.out, h1, h2, Bool.or_false, Bool.true_or, Bool.or_true, if_true, if_false, Bool.false_eq_true]
  go_wp2_with fail
  refine (fold1_two r _ _ _ _ hc).mono ?_
  rintro e w1 ⟨rfl, ⟨rfl, h3⟩ | ⟨rfl, h3⟩⟩
  · obtain ⟨lo, hi⟩ := h3.bounds
    go_wp2
    all_goals
      go_ret
      refine ⟨ret_i64 ?_, hbel.out⟩
      rw [← Hv.out, ← fold_eq]
      simp only [InH] at h1 h2 h3
      simp only [foldU, E1.out, E2.out, h1, h2, h3, Bool.or_false, Bool.true_or, Bool.or_true, if_true, if_false, Bool.false_eq_true]
  go_wp2_with fail
  refine (fold1_two r _ _ _ _ hc).mono ?_
  rintro e w1 ⟨rfl, ⟨rfl, h4⟩ | ⟨rfl, h4⟩⟩
  · obtain ⟨lo, hi⟩ := h4.bounds
    go_wp2
    all_goals
      go_ret
      refine ⟨ret_i64 ?_, hbel.out⟩
      rw [← Hv.out, ← fold_eq]
      simp only [InH] at h1 h2 h3 h4
      simp only [foldU, E1.out, E2.out, h1, h2, h3, h4, Bool.or_false, Bool.or_true, if_true, if_false, Bool.false_eq_true]
  by_cases q3 : r = 962
  · have e3 : (r == 962) = true := by rw [beq_iff_eq]; exact q3
    have Q3 := Lib.hid q3
    clear q3
    go_wp2
    all_goals
      go_ret
      exact ⟨ret_i64 (by rw [← Hv.out]; first | exact fold_962.symm | (rw [Q3.out]; exact fold_962.symm)), hbel.out⟩
  have e3 : (r == 962) = false := by rw [beq_eq_false_iff_ne]; exact q3
  have E3 := Lib.hid e3
  clear q3
  go_wp2_with fail
  refine (fold1_two r _ _ _ _ hc).mono ?_
  rintro e w1 ⟨rfl, ⟨rfl, h5⟩ | ⟨rfl, h5⟩⟩
  · obtain ⟨lo, hi⟩ := h5.bounds
    go_wp2
    all_goals
      go_ret
      refine ⟨ret_i64 ?_, hbel.out⟩
      rw [← Hv.out, ← fold_eq]
      simp only [InH] at h1 h2 h3 h4 h5
      simp only [foldU, E1.out, E2.out, h1, h2, h3, h4, E3.out, h5, Bool.or_false, if_true, if_false, Bool.false_eq_true]
  go_wp2_with fail
  refine (fold1_two r _ _ _ _ hc).mono ?_
  rintro e w1 ⟨rfl, ⟨rfl, h6⟩ | ⟨rfl, h6⟩⟩
  · obtain ⟨lo, hi⟩ := h6.bounds
    have e4 := or_of (r := r) (by omega) (by omega)
    have e5 := mod2_lo r
    have e6 := mod2_hi r
    go_wp2
    all_goals
      go_ret
      refine ⟨ret_i64 ?_, hbel.out⟩
      rw [← Hv.out, ← fold_eq]
      simp only [InH] at h1 h2 h3 h4 h5 h6
      simp only [foldU, E1.out, E2.out, h1, h2, h3, h4, E3.out, h5, h6, Bool.or_false, Bool.true_or, if_true, if_false, Bool.false_eq_true]
  go_wp2_with fail
  refine (fold1_two r _ _ _ _ hc).mono ?_
  rintro e w1 ⟨rfl, ⟨rfl, h7⟩ | ⟨rfl, h7⟩⟩
  · obtain ⟨lo, hi⟩ := h7.bounds
    have e4 := or_of (r := r) (by omega) (by omega)
    have e5 := mod2_lo r
    have e6 := mod2_hi r
    go_wp2
    all_goals
      go_ret
      refine ⟨ret_i64 ?_, hbel.out⟩
      rw [← Hv.out, ← fold_eq]
      simp only [InH] at h1 h2 h3 h4 h5 h6 h7
      simp only [foldU, E1.out, E2.out, h1, h2, h3, h4, E3.out, h5, h6, h7, Bool.or_false, Bool.true_or, Bool.or_true, if_true, if_false, Bool.false_eq_true]
  go_wp2_with fail
  refine (fold1_two r _ _ _ _ hc).mono ?_
  rintro e w1 ⟨rfl, ⟨rfl, h8⟩ | ⟨rfl, h8⟩⟩
  · obtain ⟨lo, hi⟩ := h8.bounds
    have e4 := or_of (r := r) (by omega) (by omega)
    have e5 := mod2_lo r
    have e6 := mod2_hi r
    go_wp2
    all_goals
      go_ret
      refine ⟨ret_i64 ?_, hbel.out⟩
      rw [← Hv.out, ← fold_eq]
      simp only [InH] at h1 h2 h3 h4 h5 h6 h7 h8
      simp only [foldU, E1.out, E2.out, h1, h2, h3, h4, E3.out, h5, h6, h7, h8, Bool.or_false, Bool.true_or, Bool.or_true, if_true, if_false, Bool.false_eq_true]
  go_wp2_with fail
  refine (fold1_two r _ _ _ _ hc).mono ?_
  rintro e w1 ⟨rfl, ⟨rfl, h9⟩ | ⟨rfl, h9⟩⟩
  · obtain ⟨lo, hi⟩ := h9.bounds
    have e4 := or_of (r := r) (by omega) (by omega)
    have e5 := mod2_lo r
    have e6 := mod2_hi r
    go_wp2
    all_goals
      go_ret
      refine ⟨ret_i64 ?_, hbel.out⟩
      rw [← Hv.out, ← fold_eq]
      simp only [InH] at h1 h2 h3 h4 h5 h6 h7 h8 h9
      simp only [foldU, E1.out, E2.out, h1, h2, h3, h4, E3.out, h5, h6, h7, h8, h9, Bool.or_false, Bool.true_or, Bool.or_true, if_true, if_false, Bool.false_eq_true]
  go_wp2_with fail
  refine (fold1_two r _ _ _ _ hc).mono ?_
  rintro e w1 ⟨rfl, ⟨rfl, h10⟩ | ⟨rfl, h10⟩⟩
  · obtain ⟨lo, hi⟩ := h10.bounds
    have e4 := or_of (r := r) (by omega) (by omega)
    have e5 := mod2_lo r
    have e6 := mod2_hi r
    go_wp2
    all_goals
      go_ret
      refine ⟨ret_i64 ?_, hbel.out⟩
      rw [← Hv.out, ← fold_eq]
      simp only [InH] at h1 h2 h3 h4 h5 h6 h7 h8 h9 h10
      simp only [foldU, E1.out, E2.out, h1, h2, h3, h4, E3.out, h5, h6, h7, h8, h9, h10, Bool.or_false, Bool.or_true, if_true, if_false, Bool.false_eq_true]
  go_wp2_with fail
  refine (fold1_two r _ _ _ _ hc).mono ?_
  rintro e w1 ⟨rfl, ⟨rfl, h11⟩ | ⟨rfl, h11⟩⟩
  · obtain ⟨lo, hi⟩ := h11.bounds
    have e4 := and_of (r := r) (by omega) (by omega)
    have e5 := mod2_lo r
    have e6 := mod2_hi r
    go_wp2
    all_goals
      go_ret
      refine ⟨ret_i64 ?_, hbel.out⟩
      rw [← Hv.out, ← fold_eq]
      simp only [InH] at h1 h2 h3 h4 h5 h6 h7 h8 h9 h10 h11
      simp only [foldU, E1.out, E2.out, h1, h2, h3, h4, E3.out, h5, h6, h7, h8, h9, h10, h11, Bool.or_false, Bool.true_or, if_true, if_false, Bool.false_eq_true]
  go_wp2_with fail
  refine (fold1_two r _ _ _ _ hc).mono ?_
  rintro e w1 ⟨rfl, ⟨rfl, h12⟩ | ⟨rfl, h12⟩⟩
  · obtain ⟨lo, hi⟩ := h12.bounds
    have e4 := and_of (r := r) (by omega) (by omega)
    have e5 := mod2_lo r
    have e6 := mod2_hi r
    go_wp2
    all_goals
      go_ret
      refine ⟨ret_i64 ?_, hbel.out⟩
      rw [← Hv.out, ← fold_eq]
      simp only [InH] at h1 h2 h3 h4 h5 h6 h7 h8 h9 h10 h11 h12
      simp only [foldU, E1.out, E2.out, h1, h2, h3, h4, E3.out, h5, h6, h7, h8, h9, h10, h11, h12, Bool.or_false, Bool.or_true, if_true, if_false, Bool.false_eq_true]
  go_wp2_with fail
  refine (fold1_two r _ _ _ _ hc).mono ?_
  rintro e w1 ⟨rfl, ⟨rfl, h13⟩ | ⟨rfl, h13⟩⟩
  · obtain ⟨lo, hi⟩ := h13.bounds
    go_wp2
    all_goals
      go_ret
      refine ⟨ret_i64 ?_, hbel.out⟩
      rw [← Hv.out, ← fold_eq]
      simp only [InH] at h1 h2 h3 h4 h5 h6 h7 h8 h9 h10 h11 h12 h13
      simp only [foldU, E1.out, E2.out, h1, h2, h3, h4, E3.out, h5, h6, h7, h8, h9, h10, h11, h12, h13, Bool.or_false, if_true, if_false, Bool.false_eq_true]
  go_wp2
  all_goals
    go_ret
    refine ⟨ret_i64 ?_, hbel.out⟩
    rw [← Hv.out, ← fold_eq]
    simp only [InH] at h1 h2 h3 h4 h5 h6 h7 h8 h9 h10 h11 h12 h13
    simp only [foldU, E1.out, E2.out, h1, h2, h3, h4, E3.out, h5, h6, h7, h8, h9, h10, h11, h12, h13, Bool.or_false, if_false, Bool.false_eq_true]
end Go.Proofs.YtlfhgmclnapmjaaGreatDoor
namespace Go.Proofs.YtlfhgmclnapmjaaGreatDoor
open Go.RowKit Go.Utf

theorem ret_bool {a b : Bool} (h : a = b) : Ending.returned (.bool a) = .returned (.bool b) := by rw [h]
theorem in_two (r a b : Int) (w : World) : Calls Tryz.prog 82 #[.int .i64 r, .int .i64 a, .int .i64 b] w fun e w' => w = w' ∧ ((e = .returned (.bool true) ∧ InH r a b true) ∨ (e = .returned (.bool false) ∧ InH r a b false)) := by
  refine (ref10_in r a b w).mono ?_
  rintro e w' ⟨rfl, rfl⟩
  refine ⟨rfl, ?_⟩
  unfold InH
  cases inB r a b
  · exact .inr ⟨rfl, rfl⟩
  · exact .inl ⟨rfl, rfl⟩
set_option maxRecDepth 100000 in
set_option maxHeartbeats 6400000 in
theorem ref10_letter (r : Int) (w : World) : Calls Tryz.prog 81 #[.int .i64 r] w fun e w' => e = .returned (.bool (letterB r)) ∧ w = w' := by
  obtain ⟨v, hv⟩ : ∃ v, letterB r = v := ⟨_, rfl⟩
  rw [hv]
  have Hv := Lib.hid hv
  clear hv
  obtain ⟨b170, e170⟩ : ∃ b, (r == 170) = b := ⟨_, rfl⟩
  obtain ⟨b181, e181⟩ : ∃ b, (r == 181) = b := ⟨_, rfl⟩
  obtain ⟨b186, e186⟩ : ∃ b, (r == 186) = b := ⟨_, rfl⟩
  obtain ⟨b215, e215⟩ : ∃ b, (r != 215) = b := ⟨_, rfl⟩
  obtain ⟨b247, e247⟩ : ∃ b, (r != 247) = b := ⟨_, rfl⟩
  obtain ⟨b885, e885⟩ : ∃ b, (r != 885) = b := ⟨_, rfl⟩
  obtain ⟨b894, e894⟩ : ∃ b, (r != 894) = b := ⟨_, rfl⟩
  obtain ⟨b888, e888⟩ : ∃ b, (r != 888) = b := ⟨_, rfl⟩
  obtain ⟨b889, e889⟩ : ∃ b, (r != 889) = b := ⟨_, rfl⟩
  obtain ⟨b903, e903⟩ : ∃ b, (r != 903) = b := ⟨_, rfl⟩
  obtain ⟨b907, e907⟩ : ∃ b, (r != 907) = b := ⟨_, rfl⟩
  obtain ⟨b909, e909⟩ : ∃ b, (r != 909) = b := ⟨_, rfl⟩
  obtain ⟨b930, e930⟩ : ∃ b, (r != 930) = b := ⟨_, rfl⟩
  obtain ⟨b1014, e1014⟩ : ∃ b, (r != 1014) = b := ⟨_, rfl⟩
  go_enter Tryz.func81, Tryz.ntmps81
  go_wp2_with (go_at_call 82; refine (in_two r _ _ _).mono ?_; rintro e w1 ⟨rfl, ⟨rfl, h⟩ | ⟨rfl, h⟩⟩)
  all_goals
    go_ret
    refine ⟨ret_bool ?_, rfl⟩
    rw [← Hv.out]
    clear Hv
    try simp only [InH] at *
    simp only [letterB, e170, e181, e186, e215, e247, e885, e894, e888, e889, e903, e907, e909, e930, e1014]
    clear e170 e181 e186 e215 e247 e885 e894 e888 e889 e903 e907 e909 e930 e1014
    simp [*]
set_option maxRecDepth 100000 in
set_option maxHeartbeats 6400000 in
theorem ref10_Kind (r : Int) (w : World) : Calls Tryz.prog 50 #[.int .i64 r] w fun e w' => e = .returned (.int .i64 (kindN r)) ∧ w = w' := by
  obtain ⟨v, hv⟩ : ∃ v, kindN r = v := ⟨_, rfl⟩
  rw [hv]
  have Hv := Lib.hid hv
  clear hv
  obtain ⟨bl, hl⟩ : ∃ b, letterB r = b := ⟨_, rfl⟩
  have Hlet := Lib.hid (ref10_letter r w)
  rw [hl] at Hlet
  have Hl := Lib.hid hl
  clear hl
  obtain ⟨b32, e32⟩ : ∃ b, (r == 32) = b := ⟨_, rfl⟩
  obtain ⟨b133, e133⟩ : ∃ b, (r == 133) = b := ⟨_, rfl⟩
  obtain ⟨b160, e160⟩ : ∃ b, (r == 160) = b := ⟨_, rfl⟩
  obtain ⟨b8232, e8232⟩ : ∃ b, (r == 8232) = b := ⟨_, rfl⟩
  obtain ⟨b8233, e8233⟩ : ∃ b, (r == 8233) = b := ⟨_, rfl⟩
  obtain ⟨b12288, e12288⟩ : ∃ b, (r == 12288) = b := ⟨_, rfl⟩
  cases bl
  all_goals
    go_enter Tryz.func50, Tryz.ntmps50
    go_wp2_with (first
      | (go_at_call 81; refine Hlet.out.mono ?_; rintro e w1 ⟨rfl, rfl⟩)
      | (go_at_call 82; refine (in_two r _ _ _).mono ?_; rintro e w1 ⟨rfl, ⟨rfl, h⟩ | ⟨rfl, h⟩⟩))
    all_goals
      go_ret
      refine ⟨ret_i64 ?_, rfl⟩
      rw [← Hv.out]
      have hl := Hl.out
      clear Hv Hl
      try simp only [InH] at *
      simp_all [kindN]
end Go.Proofs.YtlfhgmclnapmjaaGreatDoor
