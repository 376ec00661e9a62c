/- The law InodePacks returns true for every directory. Conditions: what the files hold fits an int; so does the list's length. -/
import Derived.Test.YteemloillnfaeaaDoorInoT
namespace Go.Proofs.YteemloillnfaeaaDoor
open Go.RowKit Go.Wir Go.Ino

set_option maxRecDepth 100000 in
set_option maxHeartbeats 1600000 in
theorem walk_InodePacks (v : Value) (l : List Fil) (w : World) (hv : Files w v l) (hfit : ∀ f ∈ l, FitF f) (hn : l.length ≤ maxLen) :
    Calls Tryd.prog 3 #[v] w fun e w' => e = .returned (.bool true) ∧ Below w.heap.size w w' := by
  unfold maxLen at hn
  have Hfit := Lib.hid hfit
  have Hv := Lib.hid hv
  clear hfit hv
  obtain ⟨ab, hab⟩ : ∃ ab, asB l = ab := ⟨_, rfl⟩
  have Hab := Lib.hid hab
  clear hab
  go_enter Tryd.func3, Tryd.ntmps3
  go_wp2_with fail
  refine (law_shown w).mono ?_
  rintro e w1 ⟨rfl, b1⟩
  go_wp2_with fail
  refine (law_as v l (by omega) Hfit.out _ (Hv.out.below b1)).mono ?_
  rintro e w2 ⟨b2, v2, rfl, hy, hno⟩
  rw [Hab.out] at hy hno ⊢
  have B2 := Lib.hid (step_call b1 b2)
  have Hy := Lib.hid hy
  clear b1 b2 hy hno
  cases ab
  · go_wp2
    go_ret
    exact ⟨rfl, B2.out⟩
  · have V2 := Lib.hid (Hy.out rfl)
    have hq1 : ((B (packT l)).toList == (B (packT l)).toList) = true := by simp
    have hq2 : (packE l == packE l) = true := by simp
    go_wp2_with fail
    refine (inode_Pack v l (by omega) Hfit.out _ (Hv.out.below B2.out)).mono ?_
    rintro e w3 ⟨rfl, b3⟩
    have V3 := Lib.hid (V2.out.below b3)
    have B3 := Lib.hid (step_call B2.out b3)
    clear b3
    go_wp2_with fail
    refine (ref8_Pack v2 l (by omega) Hfit.out _ V3.out).mono ?_
    rintro e w4 ⟨rfl, b4⟩
    have B4 := Lib.hid (step_call B3.out b4)
    clear b4
    generalize packE l = en at *
    generalize packT l = pl at *
    go_wp2
    go_ret
    exact ⟨rfl, B4.out⟩
end Go.Proofs.YteemloillnfaeaaDoor
