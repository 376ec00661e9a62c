/- The law InodeRight returns true for every directory, two numbers and a name. Conditions: what the files hold fits an int; so do the list's length, the numbers and the name's length. -/
import Derived.Test.YteemloillnfaeaaDoorInoT
import Derived.Test.YteemloillnfaeaaDoorInoF
import Derived.Test.YteemloillnfaeaaDoorOpenFiles
namespace Go.Proofs.YteemloillnfaeaaDoor
open Go.RowKit Go.Wir Go.Ino

set_option maxRecDepth 100000 in
set_option maxHeartbeats 1600000 in
theorem walk_InodeRight (v : Value) (l : List Fil) (first blocks : Int) (name : ByteArray) (w : World) (hv : Files w v l) (hfit : ∀ f ∈ l, FitF f) (hn : l.length ≤ maxLen) (h1 : (Lit.int .i64 first).wf = true) (h2 : (Lit.int .i64 blocks).wf = true) (h3 : name.size ≤ maxLen) :
    Calls Tryd.prog 8 #[v, .int .i64 first, .int .i64 blocks, .string name] w fun e w' => e = .returned (.bool true) ∧ Below w.heap.size w w' := by
  unfold maxLen at hn h3
  have h1 := wf_bounds h1
  have h2 := wf_bounds h2
  obtain ⟨t, rfl⟩ : ∃ t, name = B t := ⟨L name, (B_L name).symm⟩
  have Hfit := Lib.hid hfit
  have Hv := Lib.hid hv
  clear hfit hv
  obtain ⟨ab, hab⟩ : ∃ ab, asB l = ab := ⟨_, rfl⟩
  have Hab := Lib.hid hab
  clear hab
  go_enter Tryd.func8, Tryd.ntmps8
  go_wp2_with fail
  refine (law_shown w).mono ?_
  rintro e w1 ⟨rfl, b1⟩
  go_wp2_with fail
  refine (law_as v l (by omega) Hfit.out _ (Hv.out.below b1)).mono ?_
  rintro e w2 ⟨b2, v2, rfl, hy, hno⟩
  rw [Hab.out] at hy hno ⊢
  have B2 := Lib.hid (step_call b1 b2)
  have Hy := Lib.hid hy
  clear b1 b2 hy hno
  cases ab
  · go_wp2
    go_ret
    exact ⟨rfl, B2.out⟩
  · have V2 := Lib.hid (Hy.out rfl)
    have hl := (asB_few Hab.out).1
    by_cases hbig : ((B t).size : Int) > 200
    · go_wp2
      go_ret
      exact ⟨rfl, B2.out⟩
    · have HN1 := Lib.hid (fun w0 => inode_Name (B t) h3 w0)
      have HN2 := Lib.hid (fun w0 => ref8_Name (B t) h3 w0)
      rw [L_B] at HN1 HN2
      have HR1 := Lib.hid (fun w0 (h : Below w2.heap.size w2 w0) => inode_Right v l first blocks h1 h2 (by omega) Hfit.out w0 ((Hv.out.below B2.out).below h))
      have HR2 := Lib.hid (fun w0 (h : Below w2.heap.size w2 w0) => ref8_Right v2 l first blocks h1 h2 (by omega) Hfit.out w0 (V2.out.below h))
      have HR3 := Lib.hid (fun w0 (h : Below w2.heap.size w2 w0) => ref8_Right v2 l 0 4096 (by omega) (by omega) (by omega) Hfit.out w0 (V2.out.below h))
      have HF1 := Lib.hid (fun hr w0 (h : Below w2.heap.size w2 w0) => inode_Find v l t hr (by omega) w0 ((Hv.out.below B2.out).below h))
      have HF2 := Lib.hid (fun w0 (h : Below w2.heap.size w2 w0) => ref8_Find v2 l t (by omega) w0 (V2.out.below h))
      have Hri := Lib.hid (fun (h : rightB l 0 4096 = true) => (show riseB l = true by unfold riseB; exact decide_eq_true ((rightB_iff _ _ _).1 h).2.1))
      have q1 : (nameB t != nameB t) = false := by simp
      have q2 : (rightB l first blocks != rightB l first blocks) = false := by simp
      have q3 : ((placeL l t : Int) == (placeL l t : Int)) = true := by simp
      have q4 : (foundB l t == foundB l t) = true := by simp
      have hp := place_le l t
      have hp2 : placeL l t ≤ 100 := by omega
      obtain ⟨rt, hrt⟩ : ∃ rt, rightB l 0 4096 = rt := ⟨_, rfl⟩
      rw [hrt] at HR3
      have Hrt := Lib.hid hrt
      have hbc : Below w2.heap.size w2 w2 := Below.refl _ _
      generalize nameB t = nb at *
      generalize rightB l first blocks = rb at *
      generalize placeL l t = pl at *
      generalize foundB l t = fb at *
      clear hrt hp
      go_wp2_with (first
        | (go_at_call 19; refine (HN1.out _).mono ?_; rintro e w3 ⟨rfl, hb⟩; have hbc : Below w2.heap.size w2 w3 := (by first | exact step_call hbc hb | exact step_call (step_call hbc (below_drew _)) hb))
        | (go_at_call 20; refine (HN2.out _).mono ?_; rintro e w4 ⟨rfl, rfl⟩)
        | (go_at_call 18; refine (HR1.out _ hbc).mono ?_; rintro e w5 ⟨rfl, hb⟩; have hbc : Below w2.heap.size w2 w5 := step_call hbc hb)
        | (go_at_call 21; with_reducible refine (HR2.out _ hbc).mono ?_; rintro e w6 ⟨rfl, hb⟩; have hbc : Below w2.heap.size w2 w6 := step_call hbc hb)
        | fail)
      refine (HR3.out _ hbc).mono ?_
      rintro e w7 ⟨rfl, hb⟩
      have hbc : Below w2.heap.size w2 w7 := step_call hbc hb
      cases rt
      · go_wp2
        go_ret
        exact ⟨rfl, step_call B2.out hbc⟩
      · go_wp2_with (first
          | (go_at_call 22; refine (HF1.out (Hri.out Hrt.out) _ hbc).mono ?_; rintro e w8 ⟨rfl, hb⟩; have hbc : Below w2.heap.size w2 w8 := step_call hbc hb)
          | (go_at_call 23; refine (HF2.out _ hbc).mono ?_; rintro e w9 ⟨rfl, hb⟩; have hbc : Below w2.heap.size w2 w9 := step_call hbc hb)
          | fail)
        go_ret
        exact ⟨rfl, step_call B2.out hbc⟩
end Go.Proofs.YteemloillnfaeaaDoor
