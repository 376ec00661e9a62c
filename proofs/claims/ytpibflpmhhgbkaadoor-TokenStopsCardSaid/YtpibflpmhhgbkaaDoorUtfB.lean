/- Chapter 10: the reference's Fold. No conditions. -/
import Derived.Test.YtpibflpmhhgbkaaDoorUtfA
namespace Go.Proofs.YtpibflpmhhgbkaaDoor
open Go.RowKit Go.Utf

theorem in_yes (r a b : Int) (w : World) (h1 : a ≤ r) (h2 : r ≤ b) : Calls Tryd.prog 32 #[.int .i64 r, .int .i64 a, .int .i64 b] w fun e w' => e = .returned (.bool true) ∧ w = w' := by
  have := ref10_in r a b w
  unfold inB at this
  rwa [decide_eq_true h1, decide_eq_true h2] at this
theorem in_lt (r a b : Int) (w : World) (h1 : r < a) : Calls Tryd.prog 32 #[.int .i64 r, .int .i64 a, .int .i64 b] w fun e w' => e = .returned (.bool false) ∧ w = w' := by
  have := ref10_in r a b w
  unfold inB at this
  rwa [decide_eq_false (show ¬ a ≤ r by omega)] at this
theorem in_gt (r a b : Int) (w : World) (h1 : b < r) : Calls Tryd.prog 32 #[.int .i64 r, .int .i64 a, .int .i64 b] w fun e w' => e = .returned (.bool false) ∧ w = w' := by
  have := ref10_in r a b w
  unfold inB at this
  rwa [decide_eq_false (show ¬ r ≤ b by omega), Bool.and_false] at this
set_option maxRecDepth 100000 in
set_option maxHeartbeats 3200000 in
theorem ref10_Fold (r : Int) (w : World) : Calls Tryd.prog 38 #[.int .i64 r] w fun e w' => e = .returned (.int .i64 (foldN r)) ∧ w = w' := by
  by_cases q0 : r ≤ 64
  · have hv : foldN r = r := by unfold foldN; repeat' split <;> omega
    rw [hv]
    have e1 : (r == 962) = false := by rw [beq_eq_false_iff_ne]; omega
    clear hv
    go_enter Tryd.func38, Tryd.ntmps38
    go_wp2_with (go_at_call 32; (first | refine (in_lt _ _ _ _ (by omega)).mono ?_ | refine (in_gt _ _ _ _ (by omega)).mono ?_ | refine (in_yes _ _ _ _ (by omega) (by omega)).mono ?_); rintro e w1 ⟨rfl, rfl⟩)
    go_ret
    exact ⟨rfl, rfl⟩
  by_cases q1 : r ≤ 90
  · have lo : 65 ≤ r := by omega
    have hv : foldN r = r + 32 := by unfold foldN; repeat' split <;> omega
    rw [hv]
    have e1 : (r == 962) = false := by rw [beq_eq_false_iff_ne]; omega
    clear hv
    go_enter Tryd.func38, Tryd.ntmps38
    go_wp2_with (go_at_call 32; (first | refine (in_lt _ _ _ _ (by omega)).mono ?_ | refine (in_gt _ _ _ _ (by omega)).mono ?_ | refine (in_yes _ _ _ _ (by omega) (by omega)).mono ?_); rintro e w1 ⟨rfl, rfl⟩)
    go_ret
    exact ⟨rfl, rfl⟩
  by_cases q2 : r ≤ 191
  · have lo : 91 ≤ r := by omega
    have hv : foldN r = r := by unfold foldN; repeat' split <;> omega
    rw [hv]
    have e1 : (r == 962) = false := by rw [beq_eq_false_iff_ne]; omega
    clear hv
    go_enter Tryd.func38, Tryd.ntmps38
    go_wp2_with (go_at_call 32; (first | refine (in_lt _ _ _ _ (by omega)).mono ?_ | refine (in_gt _ _ _ _ (by omega)).mono ?_ | refine (in_yes _ _ _ _ (by omega) (by omega)).mono ?_); rintro e w1 ⟨rfl, rfl⟩)
    go_ret
    exact ⟨rfl, rfl⟩
  by_cases q3 : r ≤ 214
  · have lo : 192 ≤ r := by omega
    have hv : foldN r = r + 32 := by unfold foldN; repeat' split <;> omega
    rw [hv]
    have e1 : (r == 962) = false := by rw [beq_eq_false_iff_ne]; omega
    have e2 : (r != 215) = true := by rw [bne_iff_ne]; omega
    clear hv
    go_enter Tryd.func38, Tryd.ntmps38
    go_wp2_with (go_at_call 32; (first | refine (in_lt _ _ _ _ (by omega)).mono ?_ | refine (in_gt _ _ _ _ (by omega)).mono ?_ | refine (in_yes _ _ _ _ (by omega) (by omega)).mono ?_); rintro e w1 ⟨rfl, rfl⟩)
    go_ret
    exact ⟨rfl, rfl⟩
  by_cases q4 : r ≤ 215
  · have lo : 215 ≤ r := by omega
    have hv : foldN r = r := by unfold foldN; repeat' split <;> omega
    rw [hv]
    have e1 : (r == 962) = false := by rw [beq_eq_false_iff_ne]; omega
    have e2 : (r != 215) = false := by simp; omega
    clear hv
    go_enter Tryd.func38, Tryd.ntmps38
    go_wp2_with (go_at_call 32; (first | refine (in_lt _ _ _ _ (by omega)).mono ?_ | refine (in_gt _ _ _ _ (by omega)).mono ?_ | refine (in_yes _ _ _ _ (by omega) (by omega)).mono ?_); rintro e w1 ⟨rfl, rfl⟩)
    go_ret
    exact ⟨rfl, rfl⟩
  by_cases q5 : r ≤ 222
  · have lo : 216 ≤ r := by omega
    have hv : foldN r = r + 32 := by unfold foldN; repeat' split <;> omega
    rw [hv]
    have e1 : (r == 962) = false := by rw [beq_eq_false_iff_ne]; omega
    have e2 : (r != 215) = true := by rw [bne_iff_ne]; omega
    clear hv
    go_enter Tryd.func38, Tryd.ntmps38
    go_wp2_with (go_at_call 32; (first | refine (in_lt _ _ _ _ (by omega)).mono ?_ | refine (in_gt _ _ _ _ (by omega)).mono ?_ | refine (in_yes _ _ _ _ (by omega) (by omega)).mono ?_); rintro e w1 ⟨rfl, rfl⟩)
    go_ret
    exact ⟨rfl, rfl⟩
  by_cases q6 : r ≤ 255
  · have lo : 223 ≤ r := by omega
    have hv : foldN r = r := by unfold foldN; repeat' split <;> omega
    rw [hv]
    have e1 : (r == 962) = false := by rw [beq_eq_false_iff_ne]; omega
    clear hv
    go_enter Tryd.func38, Tryd.ntmps38
    go_wp2_with (go_at_call 32; (first | refine (in_lt _ _ _ _ (by omega)).mono ?_ | refine (in_gt _ _ _ _ (by omega)).mono ?_ | refine (in_yes _ _ _ _ (by omega) (by omega)).mono ?_); rintro e w1 ⟨rfl, rfl⟩)
    go_ret
    exact ⟨rfl, rfl⟩
  by_cases q7 : r ≤ 303
  · have lo : 256 ≤ r := by omega
    have hv : foldN r = r + 1 - r % 2 := by unfold foldN; repeat' split <;> omega
    rw [hv]
    have e1 : (r == 962) = false := by rw [beq_eq_false_iff_ne]; omega
    have e3 : r.tmod 2 = r % 2 := Int.tmod_eq_emod_of_nonneg (by omega)
    clear hv
    go_enter Tryd.func38, Tryd.ntmps38
    go_wp2_with (go_at_call 32; (first | refine (in_lt _ _ _ _ (by omega)).mono ?_ | refine (in_gt _ _ _ _ (by omega)).mono ?_ | refine (in_yes _ _ _ _ (by omega) (by omega)).mono ?_); rintro e w1 ⟨rfl, rfl⟩)
    go_ret
    exact ⟨rfl, rfl⟩
  by_cases q8 : r ≤ 312
  · have lo : 304 ≤ r := by omega
    have hv : foldN r = r := by unfold foldN; repeat' split <;> omega
    rw [hv]
    have e1 : (r == 962) = false := by rw [beq_eq_false_iff_ne]; omega
    clear hv
    go_enter Tryd.func38, Tryd.ntmps38
    go_wp2_with (go_at_call 32; (first | refine (in_lt _ _ _ _ (by omega)).mono ?_ | refine (in_gt _ _ _ _ (by omega)).mono ?_ | refine (in_yes _ _ _ _ (by omega) (by omega)).mono ?_); rintro e w1 ⟨rfl, rfl⟩)
    go_ret
    exact ⟨rfl, rfl⟩
  by_cases q9 : r ≤ 328
  · have lo : 313 ≤ r := by omega
    have hv : foldN r = r + r % 2 := by unfold foldN; repeat' split <;> omega
    rw [hv]
    have e1 : (r == 962) = false := by rw [beq_eq_false_iff_ne]; omega
    have e3 : r.tmod 2 = r % 2 := Int.tmod_eq_emod_of_nonneg (by omega)
    clear hv
    go_enter Tryd.func38, Tryd.ntmps38
    go_wp2_with (go_at_call 32; (first | refine (in_lt _ _ _ _ (by omega)).mono ?_ | refine (in_gt _ _ _ _ (by omega)).mono ?_ | refine (in_yes _ _ _ _ (by omega) (by omega)).mono ?_); rintro e w1 ⟨rfl, rfl⟩)
    go_ret
    exact ⟨rfl, rfl⟩
  by_cases q10 : r ≤ 329
  · have lo : 329 ≤ r := by omega
    have hv : foldN r = r := by unfold foldN; repeat' split <;> omega
    rw [hv]
    have e1 : (r == 962) = false := by rw [beq_eq_false_iff_ne]; omega
    clear hv
    go_enter Tryd.func38, Tryd.ntmps38
    go_wp2_with (go_at_call 32; (first | refine (in_lt _ _ _ _ (by omega)).mono ?_ | refine (in_gt _ _ _ _ (by omega)).mono ?_ | refine (in_yes _ _ _ _ (by omega) (by omega)).mono ?_); rintro e w1 ⟨rfl, rfl⟩)
    go_ret
    exact ⟨rfl, rfl⟩
  by_cases q11 : r ≤ 375
  · have lo : 330 ≤ r := by omega
    have hv : foldN r = r + 1 - r % 2 := by unfold foldN; repeat' split <;> omega
    rw [hv]
    have e1 : (r == 962) = false := by rw [beq_eq_false_iff_ne]; omega
    have e3 : r.tmod 2 = r % 2 := Int.tmod_eq_emod_of_nonneg (by omega)
    clear hv
    go_enter Tryd.func38, Tryd.ntmps38
    go_wp2_with (go_at_call 32; (first | refine (in_lt _ _ _ _ (by omega)).mono ?_ | refine (in_gt _ _ _ _ (by omega)).mono ?_ | refine (in_yes _ _ _ _ (by omega) (by omega)).mono ?_); rintro e w1 ⟨rfl, rfl⟩)
    go_ret
    exact ⟨rfl, rfl⟩
  by_cases q12 : r ≤ 376
  · have lo : 376 ≤ r := by omega
    have hv : foldN r = r := by unfold foldN; repeat' split <;> omega
    rw [hv]
    have e1 : (r == 962) = false := by rw [beq_eq_false_iff_ne]; omega
    clear hv
    go_enter Tryd.func38, Tryd.ntmps38
    go_wp2_with (go_at_call 32; (first | refine (in_lt _ _ _ _ (by omega)).mono ?_ | refine (in_gt _ _ _ _ (by omega)).mono ?_ | refine (in_yes _ _ _ _ (by omega) (by omega)).mono ?_); rintro e w1 ⟨rfl, rfl⟩)
    go_ret
    exact ⟨rfl, rfl⟩
  by_cases q13 : r ≤ 382
  · have lo : 377 ≤ r := by omega
    have hv : foldN r = r + r % 2 := by unfold foldN; repeat' split <;> omega
    rw [hv]
    have e1 : (r == 962) = false := by rw [beq_eq_false_iff_ne]; omega
    have e3 : r.tmod 2 = r % 2 := Int.tmod_eq_emod_of_nonneg (by omega)
    clear hv
    go_enter Tryd.func38, Tryd.ntmps38
    go_wp2_with (go_at_call 32; (first | refine (in_lt _ _ _ _ (by omega)).mono ?_ | refine (in_gt _ _ _ _ (by omega)).mono ?_ | refine (in_yes _ _ _ _ (by omega) (by omega)).mono ?_); rintro e w1 ⟨rfl, rfl⟩)
    go_ret
    exact ⟨rfl, rfl⟩
  by_cases q14 : r ≤ 912
  · have lo : 383 ≤ r := by omega
    have hv : foldN r = r := by unfold foldN; repeat' split <;> omega
    rw [hv]
    have e1 : (r == 962) = false := by rw [beq_eq_false_iff_ne]; omega
    clear hv
    go_enter Tryd.func38, Tryd.ntmps38
    go_wp2_with (go_at_call 32; (first | refine (in_lt _ _ _ _ (by omega)).mono ?_ | refine (in_gt _ _ _ _ (by omega)).mono ?_ | refine (in_yes _ _ _ _ (by omega) (by omega)).mono ?_); rintro e w1 ⟨rfl, rfl⟩)
    go_ret
    exact ⟨rfl, rfl⟩
  by_cases q15 : r ≤ 929
  · have lo : 913 ≤ r := by omega
    have hv : foldN r = r + 32 := by unfold foldN; repeat' split <;> omega
    rw [hv]
    have e1 : (r == 962) = false := by rw [beq_eq_false_iff_ne]; omega
    have e2 : (r != 930) = true := by rw [bne_iff_ne]; omega
    clear hv
    go_enter Tryd.func38, Tryd.ntmps38
    go_wp2_with (go_at_call 32; (first | refine (in_lt _ _ _ _ (by omega)).mono ?_ | refine (in_gt _ _ _ _ (by omega)).mono ?_ | refine (in_yes _ _ _ _ (by omega) (by omega)).mono ?_); rintro e w1 ⟨rfl, rfl⟩)
    go_ret
    exact ⟨rfl, rfl⟩
  by_cases q16 : r ≤ 930
  · have lo : 930 ≤ r := by omega
    have hv : foldN r = r := by unfold foldN; repeat' split <;> omega
    rw [hv]
    have e1 : (r == 962) = false := by rw [beq_eq_false_iff_ne]; omega
    have e2 : (r != 930) = false := by simp; omega
    clear hv
    go_enter Tryd.func38, Tryd.ntmps38
    go_wp2_with (go_at_call 32; (first | refine (in_lt _ _ _ _ (by omega)).mono ?_ | refine (in_gt _ _ _ _ (by omega)).mono ?_ | refine (in_yes _ _ _ _ (by omega) (by omega)).mono ?_); rintro e w1 ⟨rfl, rfl⟩)
    go_ret
    exact ⟨rfl, rfl⟩
  by_cases q17 : r ≤ 937
  · have lo : 931 ≤ r := by omega
    have hv : foldN r = r + 32 := by unfold foldN; repeat' split <;> omega
    rw [hv]
    have e1 : (r == 962) = false := by rw [beq_eq_false_iff_ne]; omega
    have e2 : (r != 930) = true := by rw [bne_iff_ne]; omega
    clear hv
    go_enter Tryd.func38, Tryd.ntmps38
    go_wp2_with (go_at_call 32; (first | refine (in_lt _ _ _ _ (by omega)).mono ?_ | refine (in_gt _ _ _ _ (by omega)).mono ?_ | refine (in_yes _ _ _ _ (by omega) (by omega)).mono ?_); rintro e w1 ⟨rfl, rfl⟩)
    go_ret
    exact ⟨rfl, rfl⟩
  by_cases q18 : r ≤ 961
  · have lo : 938 ≤ r := by omega
    have hv : foldN r = r := by unfold foldN; repeat' split <;> omega
    rw [hv]
    have e1 : (r == 962) = false := by rw [beq_eq_false_iff_ne]; omega
    clear hv
    go_enter Tryd.func38, Tryd.ntmps38
    go_wp2_with (go_at_call 32; (first | refine (in_lt _ _ _ _ (by omega)).mono ?_ | refine (in_gt _ _ _ _ (by omega)).mono ?_ | refine (in_yes _ _ _ _ (by omega) (by omega)).mono ?_); rintro e w1 ⟨rfl, rfl⟩)
    go_ret
    exact ⟨rfl, rfl⟩
  by_cases q19 : r ≤ 962
  · have lo : 962 ≤ r := by omega
    have hv : foldN r = 963 := by unfold foldN; repeat' split <;> omega
    rw [hv]
    have e1 : (r == 962) = true := by rw [beq_iff_eq]; omega
    clear hv
    go_enter Tryd.func38, Tryd.ntmps38
    go_wp2_with (go_at_call 32; (first | refine (in_lt _ _ _ _ (by omega)).mono ?_ | refine (in_gt _ _ _ _ (by omega)).mono ?_ | refine (in_yes _ _ _ _ (by omega) (by omega)).mono ?_); rintro e w1 ⟨rfl, rfl⟩)
    go_ret
    exact ⟨rfl, rfl⟩
  by_cases q20 : r ≤ 1023
  · have lo : 963 ≤ r := by omega
    have hv : foldN r = r := by unfold foldN; repeat' split <;> omega
    rw [hv]
    have e1 : (r == 962) = false := by rw [beq_eq_false_iff_ne]; omega
    clear hv
    go_enter Tryd.func38, Tryd.ntmps38
    go_wp2_with (go_at_call 32; (first | refine (in_lt _ _ _ _ (by omega)).mono ?_ | refine (in_gt _ _ _ _ (by omega)).mono ?_ | refine (in_yes _ _ _ _ (by omega) (by omega)).mono ?_); rintro e w1 ⟨rfl, rfl⟩)
    go_ret
    exact ⟨rfl, rfl⟩
  by_cases q21 : r ≤ 1039
  · have lo : 1024 ≤ r := by omega
    have hv : foldN r = r + 80 := by unfold foldN; repeat' split <;> omega
    rw [hv]
    have e1 : (r == 962) = false := by rw [beq_eq_false_iff_ne]; omega
    clear hv
    go_enter Tryd.func38, Tryd.ntmps38
    go_wp2_with (go_at_call 32; (first | refine (in_lt _ _ _ _ (by omega)).mono ?_ | refine (in_gt _ _ _ _ (by omega)).mono ?_ | refine (in_yes _ _ _ _ (by omega) (by omega)).mono ?_); rintro e w1 ⟨rfl, rfl⟩)
    go_ret
    exact ⟨rfl, rfl⟩
  by_cases q22 : r ≤ 1071
  · have lo : 1040 ≤ r := by omega
    have hv : foldN r = r + 32 := by unfold foldN; repeat' split <;> omega
    rw [hv]
    have e1 : (r == 962) = false := by rw [beq_eq_false_iff_ne]; omega
    clear hv
    go_enter Tryd.func38, Tryd.ntmps38
    go_wp2_with (go_at_call 32; (first | refine (in_lt _ _ _ _ (by omega)).mono ?_ | refine (in_gt _ _ _ _ (by omega)).mono ?_ | refine (in_yes _ _ _ _ (by omega) (by omega)).mono ?_); rintro e w1 ⟨rfl, rfl⟩)
    go_ret
    exact ⟨rfl, rfl⟩
  by_cases q23 : r ≤ 1119
  · have lo : 1072 ≤ r := by omega
    have hv : foldN r = r := by unfold foldN; repeat' split <;> omega
    rw [hv]
    have e1 : (r == 962) = false := by rw [beq_eq_false_iff_ne]; omega
    clear hv
    go_enter Tryd.func38, Tryd.ntmps38
    go_wp2_with (go_at_call 32; (first | refine (in_lt _ _ _ _ (by omega)).mono ?_ | refine (in_gt _ _ _ _ (by omega)).mono ?_ | refine (in_yes _ _ _ _ (by omega) (by omega)).mono ?_); rintro e w1 ⟨rfl, rfl⟩)
    go_ret
    exact ⟨rfl, rfl⟩
  by_cases q24 : r ≤ 1153
  · have lo : 1120 ≤ r := by omega
    have hv : foldN r = r + 1 - r % 2 := by unfold foldN; repeat' split <;> omega
    rw [hv]
    have e1 : (r == 962) = false := by rw [beq_eq_false_iff_ne]; omega
    have e3 : r.tmod 2 = r % 2 := Int.tmod_eq_emod_of_nonneg (by omega)
    clear hv
    go_enter Tryd.func38, Tryd.ntmps38
    go_wp2_with (go_at_call 32; (first | refine (in_lt _ _ _ _ (by omega)).mono ?_ | refine (in_gt _ _ _ _ (by omega)).mono ?_ | refine (in_yes _ _ _ _ (by omega) (by omega)).mono ?_); rintro e w1 ⟨rfl, rfl⟩)
    go_ret
    exact ⟨rfl, rfl⟩
  by_cases q25 : r ≤ 1161
  · have lo : 1154 ≤ r := by omega
    have hv : foldN r = r := by unfold foldN; repeat' split <;> omega
    rw [hv]
    have e1 : (r == 962) = false := by rw [beq_eq_false_iff_ne]; omega
    clear hv
    go_enter Tryd.func38, Tryd.ntmps38
    go_wp2_with (go_at_call 32; (first | refine (in_lt _ _ _ _ (by omega)).mono ?_ | refine (in_gt _ _ _ _ (by omega)).mono ?_ | refine (in_yes _ _ _ _ (by omega) (by omega)).mono ?_); rintro e w1 ⟨rfl, rfl⟩)
    go_ret
    exact ⟨rfl, rfl⟩
  by_cases q26 : r ≤ 1215
  · have lo : 1162 ≤ r := by omega
    have hv : foldN r = r + 1 - r % 2 := by unfold foldN; repeat' split <;> omega
    rw [hv]
    have e1 : (r == 962) = false := by rw [beq_eq_false_iff_ne]; omega
    have e3 : r.tmod 2 = r % 2 := Int.tmod_eq_emod_of_nonneg (by omega)
    clear hv
    go_enter Tryd.func38, Tryd.ntmps38
    go_wp2_with (go_at_call 32; (first | refine (in_lt _ _ _ _ (by omega)).mono ?_ | refine (in_gt _ _ _ _ (by omega)).mono ?_ | refine (in_yes _ _ _ _ (by omega) (by omega)).mono ?_); rintro e w1 ⟨rfl, rfl⟩)
    go_ret
    exact ⟨rfl, rfl⟩
  by_cases q27 : r ≤ 1231
  · have lo : 1216 ≤ r := by omega
    have hv : foldN r = r := by unfold foldN; repeat' split <;> omega
    rw [hv]
    have e1 : (r == 962) = false := by rw [beq_eq_false_iff_ne]; omega
    clear hv
    go_enter Tryd.func38, Tryd.ntmps38
    go_wp2_with (go_at_call 32; (first | refine (in_lt _ _ _ _ (by omega)).mono ?_ | refine (in_gt _ _ _ _ (by omega)).mono ?_ | refine (in_yes _ _ _ _ (by omega) (by omega)).mono ?_); rintro e w1 ⟨rfl, rfl⟩)
    go_ret
    exact ⟨rfl, rfl⟩
  by_cases q28 : r ≤ 1327
  · have lo : 1232 ≤ r := by omega
    have hv : foldN r = r + 1 - r % 2 := by unfold foldN; repeat' split <;> omega
    rw [hv]
    have e1 : (r == 962) = false := by rw [beq_eq_false_iff_ne]; omega
    have e3 : r.tmod 2 = r % 2 := Int.tmod_eq_emod_of_nonneg (by omega)
    clear hv
    go_enter Tryd.func38, Tryd.ntmps38
    go_wp2_with (go_at_call 32; (first | refine (in_lt _ _ _ _ (by omega)).mono ?_ | refine (in_gt _ _ _ _ (by omega)).mono ?_ | refine (in_yes _ _ _ _ (by omega) (by omega)).mono ?_); rintro e w1 ⟨rfl, rfl⟩)
    go_ret
    exact ⟨rfl, rfl⟩
  by_cases q29 : r ≤ 1328
  · have lo : 1328 ≤ r := by omega
    have hv : foldN r = r := by unfold foldN; repeat' split <;> omega
    rw [hv]
    have e1 : (r == 962) = false := by rw [beq_eq_false_iff_ne]; omega
    clear hv
    go_enter Tryd.func38, Tryd.ntmps38
    go_wp2_with (go_at_call 32; (first | refine (in_lt _ _ _ _ (by omega)).mono ?_ | refine (in_gt _ _ _ _ (by omega)).mono ?_ | refine (in_yes _ _ _ _ (by omega) (by omega)).mono ?_); rintro e w1 ⟨rfl, rfl⟩)
    go_ret
    exact ⟨rfl, rfl⟩
  by_cases q30 : r ≤ 1366
  · have lo : 1329 ≤ r := by omega
    have hv : foldN r = r + 48 := by unfold foldN; repeat' split <;> omega
    rw [hv]
    have e1 : (r == 962) = false := by rw [beq_eq_false_iff_ne]; omega
    clear hv
    go_enter Tryd.func38, Tryd.ntmps38
    go_wp2_with (go_at_call 32; (first | refine (in_lt _ _ _ _ (by omega)).mono ?_ | refine (in_gt _ _ _ _ (by omega)).mono ?_ | refine (in_yes _ _ _ _ (by omega) (by omega)).mono ?_); rintro e w1 ⟨rfl, rfl⟩)
    go_ret
    exact ⟨rfl, rfl⟩
  · have lo : 1367 ≤ r := by omega
    have hv : foldN r = r := by unfold foldN; repeat' split <;> omega
    rw [hv]
    have e1 : (r == 962) = false := by rw [beq_eq_false_iff_ne]; omega
    clear hv
    go_enter Tryd.func38, Tryd.ntmps38
    go_wp2_with (go_at_call 32; (first | refine (in_lt _ _ _ _ (by omega)).mono ?_ | refine (in_gt _ _ _ _ (by omega)).mono ?_ | refine (in_yes _ _ _ _ (by omega) (by omega)).mono ?_); rintro e w1 ⟨rfl, rfl⟩)
    go_ret
    exact ⟨rfl, rfl⟩
end Go.Proofs.YtpibflpmhhgbkaaDoor
