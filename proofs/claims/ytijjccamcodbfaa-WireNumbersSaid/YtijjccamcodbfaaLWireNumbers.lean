/- The law WireNumbers returns true for all numbers and every text. Conditions: the numbers fit their kinds, the text's length fits an int. -/
import Derived.Test.YtijjccamcodbfaaShown2
import Derived.Test.YtijjccamcodbfaaSame2
import Derived.OpenShut
namespace Go.Proofs.Ytijjccamcodbfaa
open Go.RowKit Go.Wir

set_option maxRecDepth 100000 in
set_option maxHeartbeats 1600000 in
theorem walk_WireNumbers (f v u : Int) (s : ByteArray) (hf : (Lit.int .u32 f).wf = true) (hv : (Lit.int .u64 v).wf = true) (hu : (Lit.int .u64 u).wf = true) (hs : s.size ≤ maxLen) (w : World) :
    Calls Try.prog 4 #[.int .u32 f, .int .u64 v, .int .u64 u, .string s] w fun e w' => e = .returned (.bool true) ∧ Below w.heap.size w w' := by
  unfold maxLen at hs
  have hf := bounds_u32 hf
  have hv := Lib.hid (bounds_u64 hv)
  have hu := Lib.hid (bounds_u64 hu)
  by_cases hbig : 3000 < s.size
  · go_enter Try.func4, Try.ntmps4
    go_wp2_with fail
    refine (shown2 w).mono ?_
    rintro e w1 ⟨rfl, b1⟩
    go_wp2
    go_ret
    exact ⟨rfl, b1⟩
  · obtain ⟨v, rfl⟩ := Int.eq_ofNat_of_zero_le hv.out.1
    obtain ⟨u, rfl⟩ := Int.eq_ofNat_of_zero_le hu.out.1
    obtain ⟨fn, fr, ft, F1, F2⟩ := toFixed_same s hs
    obtain ⟨vn, vr, vt, V1, V2⟩ := toVar_same s hs
    have HF1 := Lib.hid F1
    have HF2 := Lib.hid F2
    have HV1 := Lib.hid V1
    have HV2 := Lib.hid V2
    clear F1 F2 V1 V2
    have e1 : B (varsL [v, u]) = B (varL v) ++ B (varL u) := by rw [B_append]; simp [varsL]
    have h10 : (B (varL v)).size ≤ 10 := by rw [size_B]; exact (varL_length v).2
    have h11 : (B (varL u)).size ≤ 10 := by rw [size_B]; exact (varL_length u).2
    go_enter Try.func4, Try.ntmps4
    go_wp2_with fail
    refine (shown2 w).mono ?_
    rintro e w1 ⟨rfl, b1⟩
    have B1 := Lib.hid (step_call (Below.refl _ w) b1)
    clear b1
    go_wp2_with fail
    refine (HF1.out _).mono ?_
    rintro e w2 ⟨rfl, b2⟩
    have B2 := Lib.hid (step_call B1.out b2)
    clear b2
    go_wp2_with fail
    refine (HF2.out _).mono ?_
    rintro e w3 ⟨rfl, b3⟩
    have B3 := Lib.hid (step_call B2.out b3)
    clear b3
    go_wp2_with fail
    refine (HV1.out _).mono ?_
    rintro e w4 ⟨rfl, b4⟩
    have B4 := Lib.hid (step_call B3.out b4)
    clear b4
    go_wp2_with fail
    refine (HV2.out _).mono ?_
    rintro e w5 ⟨rfl, b5⟩
    have B5 := Lib.hid (step_call B4.out b5)
    clear b5
    go_wp2_with fail
    refine (wire_Fixed _ (by omega) (by omega) _).mono ?_
    rintro e w6 ⟨rfl, b6⟩
    have B6 := Lib.hid (step_call B5.out b6)
    clear b6
    go_wp2_with fail
    refine (ref2_Fixed _ (by omega) (by omega) _).mono ?_
    rintro e w7 ⟨rfl, b7⟩
    have B7 := Lib.hid (step_call B6.out b7)
    clear b7
    go_wp2_with fail
    refine (wire_Var _ [v, u] _ (Row.new w7 [.int .u64 (v : Nat), .int .u64 (u : Nat)] 27) (by simp) (by have h1 := hv.out; have h2 := hu.out; intro n hn; simp at hn; unfold FitsN; rcases hn with rfl | rfl <;> omega)).mono ?_
    rintro e w8 ⟨rfl, b8⟩
    have B8 := Lib.hid (step_alloc B7.out b8)
    clear b8
    go_wp2_with fail
    refine (ref2_Var _ (by omega) (by have h1 := hv.out; omega) _).mono ?_
    rintro e w9 ⟨rfl, b9⟩
    have B9 := Lib.hid (step_call B8.out b9)
    clear b9
    rw [Int.toNat_natCast]
    go_wp2_with fail
    refine (ref2_Var _ (by omega) (by have h1 := hu.out; omega) _).mono ?_
    rintro e w10 ⟨rfl, b10⟩
    have B10 := Lib.hid (step_call B9.out b10)
    clear b10
    rw [Int.toNat_natCast]
    go_wp2
    go_ret
    exact ⟨rfl, B10.out⟩
end Go.Proofs.Ytijjccamcodbfaa
