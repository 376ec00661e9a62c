/- The law DictPacks returns true for every list. Condition: lengths fit an int. -/
import Derived.Test.YtefnddhondbjbaaShown13
namespace Go.Proofs.Ytefnddhondbjbaa
open Go.RowKit Go.Wir Go.Dic

set_option maxRecDepth 100000 in
set_option maxHeartbeats 1600000 in
theorem walk_DictPacks (v : Value) (l : List Ent) (w : World) (hv : Ents w v l) (hz : ∀ e ∈ l, e.1.length ≤ maxLen ∧ e.2.length ≤ maxLen) (hn : l.length ≤ maxLen) :
    Calls Try.prog 3 #[v] w fun e w' => e = .returned (.bool true) ∧ Below w.heap.size w w' := by
  unfold maxLen at hz hn
  have Hz := Lib.hid hz
  have Hv := Lib.hid hv
  clear hz hv
  cases hok : asOk l with
  | false =>
    go_enter Try.func3, Try.ntmps3
    go_wp2_with fail
    refine (shown13 w).mono ?_
    rintro e w1 ⟨rfl, b1⟩
    have B1 := Lib.hid b1
    clear b1
    go_wp2_with fail
    refine (law_as v l (by omega) Hz.out _ (Hv.out.below B1.out)).mono ?_
    rintro e w2 ⟨b2, h2⟩
    unfold AsPost at h2
    rw [hok, if_neg (by simp)] at h2
    subst h2
    have B2 := Lib.hid (step_call B1.out b2)
    clear b2 hok
    go_wp2
    go_ret
    exact ⟨rfl, B2.out⟩
  | true =>
    go_enter Try.func3, Try.ntmps3
    go_wp2_with fail
    refine (shown13 w).mono ?_
    rintro e w1 ⟨rfl, b1⟩
    have B1 := Lib.hid b1
    clear b1
    go_wp2_with fail
    refine (law_as v l (by omega) Hz.out _ (Hv.out.below B1.out)).mono ?_
    rintro e w2 ⟨b2, h2⟩
    unfold AsPost at h2
    rw [hok, if_pos rfl] at h2
    obtain ⟨v', rfl, hv'⟩ := h2
    have B2 := Lib.hid (step_call B1.out b2)
    have V2 := Lib.hid hv'
    clear b2 hok hv'
    have hq1 : ((B (packL l)).toList == (B (packL l)).toList) = true := by simp
    have hq2 : (((packE l : Nat) : Int) == ((packE l : Nat) : Int)) = true := by simp
    go_wp2_with fail
    refine (dict_Pack v l _ (Hv.out.below B2.out) (by omega) Hz.out).mono ?_
    rintro e w3 ⟨rfl, b3⟩
    have B3 := Lib.hid (step_call B2.out b3)
    have V3 := Lib.hid (V2.out.below b3)
    clear b3
    go_wp2_with fail
    refine (ref13_Pack v' l _ V3.out (by omega) Hz.out).mono ?_
    rintro e w4 ⟨rfl, b4⟩
    have B4 := Lib.hid (step_call B3.out b4)
    have V4 := Lib.hid (V3.out.below b4)
    clear b4
    generalize packE l = en at *
    generalize packL l = pl at *
    go_wp2_with fail
    refine (dict_Right v l _ (Hv.out.below B4.out) (by omega) Hz.out).mono ?_
    rintro e w5 ⟨rfl, b5⟩
    have B5 := Lib.hid (step_call B4.out b5)
    have V5 := Lib.hid (V4.out.below b5)
    clear b5
    go_wp2_with fail
    refine (ref13_Right v' l _ V5.out (by omega) Hz.out).mono ?_
    rintro e w6 ⟨rfl, b6⟩
    have B6 := Lib.hid (step_call B5.out b6)
    clear b6
    have hq3 : (right l == right l) = true := by simp
    go_wp2
    go_ret
    exact ⟨rfl, B6.out⟩
end Go.Proofs.Ytefnddhondbjbaa
