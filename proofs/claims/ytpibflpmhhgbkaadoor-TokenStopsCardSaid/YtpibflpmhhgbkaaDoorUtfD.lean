/- Chapter 10: Fold. Condition: the number fits an int. -/
import Derived.Test.YtpibflpmhhgbkaaDoorUtfC
import Derived.Test.YtpibflpmhhgbkaaDoorUtfKind
namespace Go.Proofs.YtpibflpmhhgbkaaDoor
open Go.RowKit Go.Utf

/-- Whether a number is in a stretch, kept apart from the walk. -/
def InH (r a b : Int) (c : Bool) : Prop := inB r a b = c
theorem InH.bounds {r a b : Int} (h : InH r a b true) : a ≤ r ∧ r ≤ b := by
  unfold InH inB at h
  rw [Bool.and_eq_true, decide_eq_true_eq, decide_eq_true_eq] at h
  exact h
theorem fold1_two (r a b : Int) (g : Nat) (w : World) (hc : w.cell? ⟨g, 0, none⟩ = some (.int .i64 r)) : Calls Tryd.prog 46 #[.int .i64 a, .int .i64 b, .pointer (some ⟨g, 0, none⟩)] w fun e w' => w = w' ∧ ((e = .returned (.bool true) ∧ InH r a b true) ∨ (e = .returned (.bool false) ∧ InH r a b false)) := by
  refine (fold1_in r a b g w hc).mono ?_
  rintro e w' ⟨rfl, rfl⟩
  refine ⟨rfl, ?_⟩
  unfold InH
  cases inB r a b
  · exact .inr ⟨rfl, rfl⟩
  · exact .inl ⟨rfl, rfl⟩
set_option maxRecDepth 100000 in
theorem or_small : ∀ n : Nat, n < 1400 → bits .or .i64 (n : Int) 1 = (n : Int) + 1 - (n : Int) % 2 := by decide +kernel
set_option maxRecDepth 100000 in
theorem and_small : ∀ n : Nat, n < 1400 → bits .and .i64 (n : Int) 1 = (n : Int) % 2 := by decide +kernel
theorem or_of {r : Int} (h0 : 0 ≤ r) (h : r < 1400) : bits .or .i64 r 1 = r + 1 - r % 2 := by
  have := or_small r.toNat (by omega)
  rwa [show ((r.toNat : Nat) : Int) = r by omega] at this
theorem and_of {r : Int} (h0 : 0 ≤ r) (h : r < 1400) : bits .and .i64 r 1 = r % 2 := by
  have := and_small r.toNat (by omega)
  rwa [show ((r.toNat : Nat) : Int) = r by omega] at this
theorem mod2_lo (r : Int) : 0 ≤ r % 2 := by omega
theorem mod2_hi (r : Int) : r % 2 ≤ 1 := by omega
theorem fold_215 : foldN 215 = 215 := by decide
theorem fold_930 : foldN 930 = 930 := by decide
theorem fold_962 : foldN 962 = 963 := by decide
set_option maxRecDepth 100000 in
set_option maxHeartbeats 3200000 in
theorem utf_Fold (r : Int) (w : World) : Calls Tryd.prog 29 #[.int .i64 r] w fun e w' => e = .returned (.int .i64 (foldN r)) ∧ Below w.heap.size w w' := by
  have hbel := Lib.hid (step_new (Below.refl w.heap.size w) (.cells #[.int .i64 r] 3))
  by_cases q1 : r = 215
  · subst q1
    rw [fold_215]
    go_enter Tryd.func29, Tryd.ntmps29
    go_wp2
    go_ret
    exact ⟨rfl, hbel.out⟩
  by_cases q2 : r = 930
  · subst q2
    rw [fold_930]
    go_enter Tryd.func29, Tryd.ntmps29
    go_wp2
    go_ret
    exact ⟨rfl, hbel.out⟩
  have e1 : (r == 215) = false := by rw [beq_eq_false_iff_ne]; exact q1
  have e2 : (r == 930) = false := by rw [beq_eq_false_iff_ne]; exact q2
  have E1 := Lib.hid e1
  have E2 := Lib.hid e2
  clear q1 q2
  have hc : (w.alloc (.cells #[.int .i64 r] 3)).cell? ⟨w.heap.size, 0, none⟩ = some (.int .i64 r) := by
    rw [Lib.cell_of_heap (heap_alloc_new w _)]; rfl
  obtain ⟨v, hv⟩ : ∃ v, foldN r = v := ⟨_, rfl⟩
  rw [hv]
  have Hv := Lib.hid hv
  clear hv
  go_enter Tryd.func29, Tryd.ntmps29
  go_wp2_with fail
  refine (fold1_two r _ _ _ _ hc).mono ?_
  rintro e w1 ⟨rfl, ⟨rfl, h1⟩ | ⟨rfl, h1⟩⟩
  · obtain ⟨lo, hi⟩ := h1.bounds
    go_wp2
    all_goals
      go_ret
      refine ⟨ret_i64 ?_, hbel.out⟩
      rw [← Hv.out, ← fold_eq]
      simp only [InH] at h1
      simp only [foldU, E1.out, E2.out, h1, Bool.or_false, Bool.true_or, if_true, if_false, Bool.false_eq_true]
  go_wp2_with fail
  refine (fold1_two r _ _ _ _ hc).mono ?_
  rintro e w1 ⟨rfl, ⟨rfl, h2⟩ | ⟨rfl, h2⟩⟩
  · obtain ⟨lo, hi⟩ := h2.bounds
    go_wp2
    all_goals
      go_ret
      refine ⟨ret_i64 ?_, hbel.out⟩
      rw [← Hv.out, ← fold_eq]
      simp only [InH] at h1 h2
      simp only [foldU, E1.out, E2.out, h1, h2, Bool.or_false, Bool.true_or, Bool.or_true, if_true, if_false, Bool.false_eq_true]
  go_wp2_with fail
  refine (fold1_two r _ _ _ _ hc).mono ?_
  rintro e w1 ⟨rfl, ⟨rfl, h3⟩ | ⟨rfl, h3⟩⟩
  · obtain ⟨lo, hi⟩ := h3.bounds
    go_wp2
    all_goals
      go_ret
      refine ⟨ret_i64 ?_, hbel.out⟩
      rw [← Hv.out, ← fold_eq]
      simp only [InH] at h1 h2 h3
      simp only [foldU, E1.out, E2.out, h1, h2, h3, Bool.or_false, Bool.true_or, Bool.or_true, if_true, if_false, Bool.false_eq_true]
  go_wp2_with fail
  refine (fold1_two r _ _ _ _ hc).mono ?_
  rintro e w1 ⟨rfl, ⟨rfl, h4⟩ | ⟨rfl, h4⟩⟩
  · obtain ⟨lo, hi⟩ := h4.bounds
    go_wp2
    all_goals
      go_ret
      refine ⟨ret_i64 ?_, hbel.out⟩
      rw [← Hv.out, ← fold_eq]
      simp only [InH] at h1 h2 h3 h4
      simp only [foldU, E1.out, E2.out, h1, h2, h3, h4, Bool.or_false, Bool.or_true, if_true, if_false, Bool.false_eq_true]
  by_cases q3 : r = 962
  · have e3 : (r == 962) = true := by rw [beq_iff_eq]; exact q3
    have Q3 := Lib.hid q3
    clear q3
    go_wp2
    all_goals
      go_ret
      exact ⟨ret_i64 (by rw [← Hv.out]; first | exact fold_962.symm | (rw [Q3.out]; exact fold_962.symm)), hbel.out⟩
  have e3 : (r == 962) = false := by rw [beq_eq_false_iff_ne]; exact q3
  have E3 := Lib.hid e3
  clear q3
  go_wp2_with fail
  refine (fold1_two r _ _ _ _ hc).mono ?_
  rintro e w1 ⟨rfl, ⟨rfl, h5⟩ | ⟨rfl, h5⟩⟩
  · obtain ⟨lo, hi⟩ := h5.bounds
    go_wp2
    all_goals
      go_ret
      refine ⟨ret_i64 ?_, hbel.out⟩
      rw [← Hv.out, ← fold_eq]
      simp only [InH] at h1 h2 h3 h4 h5
      simp only [foldU, E1.out, E2.out, h1, h2, h3, h4, E3.out, h5, Bool.or_false, if_true, if_false, Bool.false_eq_true]
  go_wp2_with fail
  refine (fold1_two r _ _ _ _ hc).mono ?_
  rintro e w1 ⟨rfl, ⟨rfl, h6⟩ | ⟨rfl, h6⟩⟩
  · obtain ⟨lo, hi⟩ := h6.bounds
    have e4 := or_of (r := r) (by omega) (by omega)
    have e5 := mod2_lo r
    have e6 := mod2_hi r
    go_wp2
    all_goals
      go_ret
      refine ⟨ret_i64 ?_, hbel.out⟩
      rw [← Hv.out, ← fold_eq]
      simp only [InH] at h1 h2 h3 h4 h5 h6
      simp only [foldU, E1.out, E2.out, h1, h2, h3, h4, E3.out, h5, h6, Bool.or_false, Bool.true_or, if_true, if_false, Bool.false_eq_true]
  go_wp2_with fail
  refine (fold1_two r _ _ _ _ hc).mono ?_
  rintro e w1 ⟨rfl, ⟨rfl, h7⟩ | ⟨rfl, h7⟩⟩
  · obtain ⟨lo, hi⟩ := h7.bounds
    have e4 := or_of (r := r) (by omega) (by omega)
    have e5 := mod2_lo r
    have e6 := mod2_hi r
    go_wp2
    all_goals
      go_ret
      refine ⟨ret_i64 ?_, hbel.out⟩
      rw [← Hv.out, ← fold_eq]
      simp only [InH] at h1 h2 h3 h4 h5 h6 h7
      simp only [foldU, E1.out, E2.out, h1, h2, h3, h4, E3.out, h5, h6, h7, Bool.or_false, Bool.true_or, Bool.or_true, if_true, if_false, Bool.false_eq_true]
  go_wp2_with fail
  refine (fold1_two r _ _ _ _ hc).mono ?_
  rintro e w1 ⟨rfl, ⟨rfl, h8⟩ | ⟨rfl, h8⟩⟩
  · obtain ⟨lo, hi⟩ := h8.bounds
    have e4 := or_of (r := r) (by omega) (by omega)
    have e5 := mod2_lo r
    have e6 := mod2_hi r
    go_wp2
    all_goals
      go_ret
      refine ⟨ret_i64 ?_, hbel.out⟩
      rw [← Hv.out, ← fold_eq]
      simp only [InH] at h1 h2 h3 h4 h5 h6 h7 h8
      simp only [foldU, E1.out, E2.out, h1, h2, h3, h4, E3.out, h5, h6, h7, h8, Bool.or_false, Bool.true_or, Bool.or_true, if_true, if_false, Bool.false_eq_true]
  go_wp2_with fail
  refine (fold1_two r _ _ _ _ hc).mono ?_
  rintro e w1 ⟨rfl, ⟨rfl, h9⟩ | ⟨rfl, h9⟩⟩
  · obtain ⟨lo, hi⟩ := h9.bounds
    have e4 := or_of (r := r) (by omega) (by omega)
    have e5 := mod2_lo r
    have e6 := mod2_hi r
    go_wp2
    all_goals
      go_ret
      refine ⟨ret_i64 ?_, hbel.out⟩
      rw [← Hv.out, ← fold_eq]
      simp only [InH] at h1 h2 h3 h4 h5 h6 h7 h8 h9
      simp only [foldU, E1.out, E2.out, h1, h2, h3, h4, E3.out, h5, h6, h7, h8, h9, Bool.or_false, Bool.true_or, Bool.or_true, if_true, if_false, Bool.false_eq_true]
  go_wp2_with fail
  refine (fold1_two r _ _ _ _ hc).mono ?_
  rintro e w1 ⟨rfl, ⟨rfl, h10⟩ | ⟨rfl, h10⟩⟩
  · obtain ⟨lo, hi⟩ := h10.bounds
    have e4 := or_of (r := r) (by omega) (by omega)
    have e5 := mod2_lo r
    have e6 := mod2_hi r
    go_wp2
    all_goals
      go_ret
      refine ⟨ret_i64 ?_, hbel.out⟩
      rw [← Hv.out, ← fold_eq]
      simp only [InH] at h1 h2 h3 h4 h5 h6 h7 h8 h9 h10
      simp only [foldU, E1.out, E2.out, h1, h2, h3, h4, E3.out, h5, h6, h7, h8, h9, h10, Bool.or_false, Bool.or_true, if_true, if_false, Bool.false_eq_true]
  go_wp2_with fail
  refine (fold1_two r _ _ _ _ hc).mono ?_
  rintro e w1 ⟨rfl, ⟨rfl, h11⟩ | ⟨rfl, h11⟩⟩
  · obtain ⟨lo, hi⟩ := h11.bounds
    have e4 := and_of (r := r) (by omega) (by omega)
    have e5 := mod2_lo r
    have e6 := mod2_hi r
    go_wp2
    all_goals
      go_ret
      refine ⟨ret_i64 ?_, hbel.out⟩
      rw [← Hv.out, ← fold_eq]
      simp only [InH] at h1 h2 h3 h4 h5 h6 h7 h8 h9 h10 h11
      simp only [foldU, E1.out, E2.out, h1, h2, h3, h4, E3.out, h5, h6, h7, h8, h9, h10, h11, Bool.or_false, Bool.true_or, if_true, if_false, Bool.false_eq_true]
  go_wp2_with fail
  refine (fold1_two r _ _ _ _ hc).mono ?_
  rintro e w1 ⟨rfl, ⟨rfl, h12⟩ | ⟨rfl, h12⟩⟩
  · obtain ⟨lo, hi⟩ := h12.bounds
    have e4 := and_of (r := r) (by omega) (by omega)
    have e5 := mod2_lo r
    have e6 := mod2_hi r
    go_wp2
    all_goals
      go_ret
      refine ⟨ret_i64 ?_, hbel.out⟩
      rw [← Hv.out, ← fold_eq]
      simp only [InH] at h1 h2 h3 h4 h5 h6 h7 h8 h9 h10 h11 h12
      simp only [foldU, E1.out, E2.out, h1, h2, h3, h4, E3.out, h5, h6, h7, h8, h9, h10, h11, h12, Bool.or_false, Bool.or_true, if_true, if_false, Bool.false_eq_true]
  go_wp2_with fail
  refine (fold1_two r _ _ _ _ hc).mono ?_
  rintro e w1 ⟨rfl, ⟨rfl, h13⟩ | ⟨rfl, h13⟩⟩
  · obtain ⟨lo, hi⟩ := h13.bounds
    go_wp2
    all_goals
      go_ret
      refine ⟨ret_i64 ?_, hbel.out⟩
      rw [← Hv.out, ← fold_eq]
      simp only [InH] at h1 h2 h3 h4 h5 h6 h7 h8 h9 h10 h11 h12 h13
      simp only [foldU, E1.out, E2.out, h1, h2, h3, h4, E3.out, h5, h6, h7, h8, h9, h10, h11, h12, h13, Bool.or_false, if_true, if_false, Bool.false_eq_true]
  go_wp2
  all_goals
    go_ret
    refine ⟨ret_i64 ?_, hbel.out⟩
    rw [← Hv.out, ← fold_eq]
    simp only [InH] at h1 h2 h3 h4 h5 h6 h7 h8 h9 h10 h11 h12 h13
    simp only [foldU, E1.out, E2.out, h1, h2, h3, h4, E3.out, h5, h6, h7, h8, h9, h10, h11, h12, h13, Bool.or_false, if_false, Bool.false_eq_true]
end Go.Proofs.YtpibflpmhhgbkaaDoor
