/- Chapter 2's examples, as the laws' head asks them: true. No conditions. -/
import Derived.Test.YtpppecabpociaaaWireCrc
import Derived.Test.YtpppecabpociaaaFixed
import Derived.Test.YtpppecabpociaaaWireText
import Derived.Test.YtpppecabpociaaaWireToText
namespace Go.Proofs.Ytpppecabpociaaa
open Go.RowKit Go.Wir

set_option maxRecDepth 100000 in
set_option maxHeartbeats 1600000 in
theorem shown2 (w : World) :
    Calls Try.prog 4 #[] w fun e w' => e = .returned (.bool true) ∧ Below w.heap.size w w' := by
  have c1 : ((crc (partsL [⟨#[49, 50, 51, 52, 53, 54, 55, 56, 57]⟩]) : Nat) : Int) = 3421780262 := by decide +kernel
  have c2 : ((crc (partsL [⟨#[49, 50, 51, 52]⟩, ⟨#[53, 54, 55, 56, 57]⟩]) : Nat) : Int) = 3421780262 := by decide +kernel
  have c3 : B (fixedL 16909060) = ⟨#[4, 3, 2, 1]⟩ := congrArg B (show fixedL 16909060 = [4, 3, 2, 1] by decide +kernel)
  have c4 : B (varsL [0, 127, 128, 300]) = ⟨#[0, 127, 128, 1, 172, 2]⟩ := congrArg B (show varsL [0, 127, 128, 300] = [0, 127, 128, 1, 172, 2] by decide +kernel)
  have c5 : B (textsL [⟨#[97, 98]⟩, ⟨#[]⟩]) = ⟨#[2, 97, 98, 0]⟩ := congrArg B (show textsL [⟨#[97, 98]⟩, ⟨#[]⟩] = [2, 97, 98, 0] by decide +kernel)
  have c6 : B [9] = ⟨#[9]⟩ := rfl
  go_enter Try.func4, Try.ntmps4
  go_wp2_with fail
  refine (wire_Crc _ [⟨#[49, 50, 51, 52, 53, 54, 55, 56, 57]⟩] _ (Row.new w [.string ⟨#[49, 50, 51, 52, 53, 54, 55, 56, 57]⟩] 9) (by decide) (by decide)).mono ?_
  rintro e w1 ⟨rfl, b1⟩
  have B1 := Lib.hid (step_alloc (Below.refl _ w) b1)
  clear b1
  go_wp2_with fail
  refine (wire_Crc _ [⟨#[49, 50, 51, 52]⟩, ⟨#[53, 54, 55, 56, 57]⟩] _ (Row.new w1 [.string ⟨#[49, 50, 51, 52]⟩, .string ⟨#[53, 54, 55, 56, 57]⟩] 9) (by decide) (by decide)).mono ?_
  rintro e w2 ⟨rfl, b2⟩
  have B2 := Lib.hid (step_alloc B1.out b2)
  clear b2
  go_wp2_with fail
  refine (wire_Crc_nil _ _ _).mono ?_
  rintro e w3 ⟨rfl, b3⟩
  have B3 := Lib.hid (step_call B2.out b3)
  clear b3
  go_wp2_with fail
  refine (wire_Fixed _ (by decide) (by decide) _).mono ?_
  rintro e w4 ⟨rfl, b4⟩
  have B4 := Lib.hid (step_call B3.out b4)
  clear b4
  go_wp2_with fail
  refine (wire_Var _ [0, 127, 128, 300] _ (Row.new w4 [.int .u64 0, .int .u64 127, .int .u64 128, .int .u64 300] 29) (by decide) (by unfold FitsN; decide)).mono ?_
  rintro e w5 ⟨rfl, b5⟩
  have B5 := Lib.hid (step_alloc B4.out b5)
  clear b5
  go_wp2_with fail
  refine (wire_Text _ [⟨#[97, 98]⟩, ⟨#[]⟩] _ (Row.new w5 [.string ⟨#[97, 98]⟩, .string ⟨#[]⟩] 9) (by decide)).mono ?_
  rintro e w6 ⟨rfl, b6⟩
  have B6 := Lib.hid (step_alloc B5.out b6)
  clear b6
  go_wp2_with fail
  refine (wire_ToFixed_none _ (by decide) _).mono ?_
  rintro e w7 ⟨rfl, b7⟩
  have B7 := Lib.hid (step_call B6.out b7)
  clear b7
  go_wp2_with fail
  refine (wire_ToVar_none _ (by decide) (by decide +kernel) _).mono ?_
  rintro e w8 ⟨rfl, b8⟩
  have B8 := Lib.hid (step_call B7.out b8)
  clear b8
  go_wp2_with fail
  refine (wire_ToVar_some _ 300 [9] (by decide) (by decide +kernel) _).mono ?_
  rintro e w9 ⟨rfl, b9⟩
  have B9 := Lib.hid (step_call B8.out b9)
  clear b9
  go_wp2_with fail
  refine (wire_ToText_none _ (by decide) (by decide +kernel) _).mono ?_
  rintro e w10 ⟨rfl, b10⟩
  have B10 := Lib.hid (step_call B9.out b10)
  clear b10
  go_wp2
  go_ret
  exact ⟨rfl, B10.out⟩
end Go.Proofs.Ytpppecabpociaaa
