/- The law WireBack returns true for all numbers and every two texts. Conditions: the numbers fit their kinds, the texts' lengths fit an int. -/
import Derived.Test.YtijjccamcodbfaaShown2
import Derived.OpenShut
namespace Go.Proofs.Ytijjccamcodbfaa
open Go.RowKit Go.Wir

set_option maxRecDepth 100000 in
set_option maxHeartbeats 1600000 in
theorem walk_WireBack (f v : Int) (t s : ByteArray) (hf : (Lit.int .u32 f).wf = true) (hv : (Lit.int .u64 v).wf = true) (ht : t.size ≤ maxLen) (hs : s.size ≤ maxLen) (w : World) :
    Calls Try.prog 6 #[.int .u32 f, .int .u64 v, .string t, .string s] w fun e w' => e = .returned (.bool true) ∧ Below w.heap.size w w' := by
  unfold maxLen at ht hs
  have hf := bounds_u32 hf
  have hv := Lib.hid (bounds_u64 hv)
  by_cases h1 : 3000 < t.size
  · go_enter Try.func6, Try.ntmps6
    go_wp2_with fail
    refine (shown2 w).mono ?_
    rintro e w1 ⟨rfl, b1⟩
    go_wp2
    go_ret
    exact ⟨rfl, b1⟩
  by_cases h2 : 3000 < s.size
  · go_enter Try.func6, Try.ntmps6
    go_wp2_with fail
    refine (shown2 w).mono ?_
    rintro e w1 ⟨rfl, b1⟩
    go_wp2
    go_ret
    exact ⟨rfl, b1⟩
  obtain ⟨v, rfl⟩ := Int.eq_ofNat_of_zero_le hv.out.1
  obtain ⟨f, rfl⟩ := Int.eq_ofNat_of_zero_le hf.1
  have hfx : (B (fixedL f) ++ s).size ≤ 9223372036854775807 := by rw [ByteArray.size_append, size_B]; simp [fixedL]; omega
  have hvx : (B (varL v) ++ s).size ≤ 9223372036854775807 := by have := (varL_length v).2; rw [ByteArray.size_append, size_B]; omega
  have htx : (B (textL (L t)) ++ s).size ≤ 9223372036854775807 := by have := textL_length (L t); rw [length_L] at this; rw [ByteArray.size_append, size_B]; omega
  have C1 := Lib.hid (wire_ToFixed_val (B (fixedL f) ++ s) hfx f (L s) (by rw [L_append, L_B]; exact toFixedL_fixedL f (by omega) (L s)))
  have C2 := Lib.hid (wire_ToVar_some (B (varL v) ++ s) v (L s) hvx (by rw [L_append, L_B]; exact toVarL_varL v (L s) (by have := hv.out; omega)))
  have C3 := Lib.hid (wire_ToText_some (B (textL (L t)) ++ s) (L t) (L s) htx (by rw [L_append, L_B]; exact toTextL_textL (L t) (L s) (by rw [length_L]; omega)))
  have g1 : (B (fixedL f)).size ≤ 4 := by rw [size_B]; simp [fixedL]
  have g2 : (B (varL v)).size ≤ 10 := by rw [size_B]; exact (varL_length v).2
  have g3 : (B (textL (L t))).size ≤ 3010 := by have := textL_length (L t); rw [size_B]; rw [length_L] at this; omega
  clear hfx hvx htx
  have e1 : B (varsL [v]) = B (varL v) := by simp [varsL]
  have e2 : B (textsL [t]) = B (textL (L t)) := by simp [textsL]
  have e3 : B (L s) = s := B_L s
  have e4 : B (L t) = t := B_L t
  go_enter Try.func6, Try.ntmps6
  go_wp2_with fail
  refine (shown2 w).mono ?_
  rintro e w1 ⟨rfl, b1⟩
  have B1 := Lib.hid (step_call (Below.refl _ w) b1)
  clear b1
  go_wp2_with fail
  refine (wire_Fixed _ (by omega) (by omega) _).mono ?_
  rintro e w2 ⟨rfl, b2⟩
  have B2 := Lib.hid (step_call B1.out b2)
  clear b2
  rw [Int.toNat_natCast]
  go_wp2_with fail
  refine (C1.out _).mono ?_
  rintro e w3 ⟨rfl, b3⟩
  have B3 := Lib.hid (step_call B2.out b3)
  clear b3
  go_wp2_with fail
  refine (wire_Var _ [v] _ (Row.new w3 [.int .u64 (v : Nat)] 27) (by simp) (by have h1 := hv.out; intro n hn; simp at hn; unfold FitsN; omega)).mono ?_
  rintro e w4 ⟨rfl, b4⟩
  have B4 := Lib.hid (step_alloc B3.out b4)
  clear b4
  go_wp2_with fail
  refine (C2.out _).mono ?_
  rintro e w5 ⟨rfl, b5⟩
  have B5 := Lib.hid (step_call B4.out b5)
  clear b5
  go_wp2_with fail
  refine (wire_Text _ [t] _ (Row.new w5 [.string t] 9) (by simp [sizes]; omega)).mono ?_
  rintro e w6 ⟨rfl, b6⟩
  have B6 := Lib.hid (step_alloc B5.out b6)
  clear b6
  go_wp2_with fail
  refine (C3.out _).mono ?_
  rintro e w7 ⟨rfl, b7⟩
  have B7 := Lib.hid (step_call B6.out b7)
  clear b7
  clear C1 C2 C3 e1 e2 g1 g2 g3
  rcases hx : toVarL (L s) with _ | ⟨x, r⟩
  · have HX := Lib.hid hx
    clear hx
    go_wp2_with fail
    refine (wire_ToVar_none s hs HX.out _).mono ?_
    rintro e w8 ⟨rfl, b8⟩
    have B8 := Lib.hid (step_call B7.out b8)
    clear b8
    rcases hy : toTextL (L s) with _ | ⟨y, q⟩
    · have HY := Lib.hid hy
      clear hy
      go_wp2_with fail
      refine (wire_ToText_none s hs HY.out _).mono ?_
      rintro e w9 ⟨rfl, b9⟩
      have B9 := Lib.hid (step_call B8.out b9)
      clear b9
      go_wp2
      go_ret
      exact ⟨rfl, B9.out⟩
    · have HY := Lib.hid hy
      have hyl := toTextL_some hy
      have ey : B (textsL [B y]) ++ B q = s := by rw [B_append, ← B_L s, hyl.1]; simp [textsL, L_B]
      have hl := hyl.2
      rw [length_L] at hl
      have gy : (B (textsL [B y])).size ≤ 3010 := by have := textL_length y; rw [size_B]; simp [textsL, L_B]; omega
      have gq : (B q).size ≤ 3000 := by have := congrArg List.length hyl.1; rw [size_B]; simp [length_L] at this; omega
      clear hy hyl
      go_wp2_with fail
      refine (wire_ToText_some s y q hs HY.out _).mono ?_
      rintro e w9 ⟨rfl, b9⟩
      have B9 := Lib.hid (step_call B8.out b9)
      clear b9
      go_wp2_with fail
      refine (wire_Text _ [B y] _ (Row.new w9 [.string (B y)] 9) (by simp [sizes, size_B]; omega)).mono ?_
      rintro e w10 ⟨rfl, b10⟩
      have B10 := Lib.hid (step_alloc B9.out b10)
      clear b10
      go_wp2
      go_ret
      exact ⟨rfl, B10.out⟩
  · have HX := Lib.hid hx
    have hxl := toVarL_some hx
    have ex : B (varsL [x]) ++ B r = s := by rw [B_append, ← B_L s, hxl.2]; simp [varsL]
    have gx : (B (varsL [x])).size ≤ 10 := by have := (varL_length x).2; rw [size_B]; simpa [varsL] using this
    have gr : (B r).size ≤ 3000 := by have := congrArg List.length hxl.2; rw [size_B]; simp [length_L] at this; omega
    have hx64 := Lib.hid hxl.1
    clear hx hxl
    go_wp2_with fail
    refine (wire_ToVar_some s x r hs HX.out _).mono ?_
    rintro e w8 ⟨rfl, b8⟩
    have B8 := Lib.hid (step_call B7.out b8)
    clear b8
    go_wp2_with fail
    refine (wire_Var _ [x] _ (Row.new w8 [.int .u64 (x : Nat)] 27) (by simp) (by have h1 := hx64.out; intro n hn; simp at hn; unfold FitsN; omega)).mono ?_
    rintro e w9 ⟨rfl, b9⟩
    have B9 := Lib.hid (step_alloc B8.out b9)
    clear b9
    rcases hy : toTextL (L s) with _ | ⟨y, q⟩
    · have HY := Lib.hid hy
      clear hy
      go_wp2_with fail
      refine (wire_ToText_none s hs HY.out _).mono ?_
      rintro e w10 ⟨rfl, b10⟩
      have B10 := Lib.hid (step_call B9.out b10)
      clear b10
      go_wp2
      go_ret
      exact ⟨rfl, B10.out⟩
    · have HY := Lib.hid hy
      have hyl := toTextL_some hy
      have ey : B (textsL [B y]) ++ B q = s := by rw [B_append, ← B_L s, hyl.1]; simp [textsL, L_B]
      have hl := hyl.2
      rw [length_L] at hl
      have gy : (B (textsL [B y])).size ≤ 3010 := by have := textL_length y; rw [size_B]; simp [textsL, L_B]; omega
      have gq : (B q).size ≤ 3000 := by have := congrArg List.length hyl.1; rw [size_B]; simp [length_L] at this; omega
      clear hy hyl
      go_wp2_with fail
      refine (wire_ToText_some s y q hs HY.out _).mono ?_
      rintro e w10 ⟨rfl, b10⟩
      have B10 := Lib.hid (step_call B9.out b10)
      clear b10
      go_wp2_with fail
      refine (wire_Text _ [B y] _ (Row.new w10 [.string (B y)] 9) (by simp [sizes, size_B]; omega)).mono ?_
      rintro e w11 ⟨rfl, b11⟩
      have B11 := Lib.hid (step_alloc B10.out b11)
      clear b11
      go_wp2
      go_ret
      exact ⟨rfl, B11.out⟩
end Go.Proofs.Ytijjccamcodbfaa
