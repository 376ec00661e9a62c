/- The law InodeBack returns true for every directory and every text. Conditions: what the files hold fits an int; so do the list's length and the text's. -/
import Derived.Test.YteemloillnfaeaaDoorInoT
namespace Go.Proofs.YteemloillnfaeaaDoor
open Go.RowKit Go.Wir Go.Ino

theorem unp_err {s : Tx} {n : Int} (h : unpL s = .error n) : n = 7 ∨ n = 8 := by
  unfold unpL at h
  repeat' split at h
  all_goals first | (simp only [Except.error.injEq] at h; omega) | cases h
theorem packE_cases (l : List Fil) : packE l = 0 ∨ packE l = 1 ∨ packE l = 5 := by
  unfold packE
  split
  · split <;> simp
  · simp
theorem right_fit {l : List Fil} {a b : Int} (h : rightB l a b = true) : ∀ f ∈ l, FitF f := fun f hf => FewF.fit ((right_few h).2 f hf) (by omega)
set_option maxRecDepth 100000 in
set_option maxHeartbeats 3200000 in
theorem walk_InodeBack (v : Value) (l : List Fil) (s : ByteArray) (w : World) (hv : Files w v l) (hfit : ∀ f ∈ l, FitF f) (hn : l.length ≤ maxLen) (h3 : s.size ≤ maxLen) :
    Calls Tryd.prog 5 #[v, .string s] w fun e w' => e = .returned (.bool true) ∧ Below w.heap.size w w' := by
  unfold maxLen at hn h3
  obtain ⟨t, rfl⟩ : ∃ t, s = B t := ⟨L s, (B_L s).symm⟩
  have Hfit := Lib.hid hfit
  have Hv := Lib.hid hv
  clear hfit hv
  obtain ⟨ab, hab⟩ : ∃ ab, asB l = ab := ⟨_, rfl⟩
  have Hab := Lib.hid hab
  clear hab
  go_enter Tryd.func5, Tryd.ntmps5
  go_wp2_with fail
  refine (law_shown w).mono ?_
  rintro e w1 ⟨rfl, b1⟩
  go_wp2_with fail
  refine (law_as v l (by omega) Hfit.out _ (Hv.out.below b1)).mono ?_
  rintro e w2 ⟨b2, v2, rfl, hy, hno⟩
  rw [Hab.out] at hy hno ⊢
  have B2 := Lib.hid (step_call b1 b2)
  have Hy := Lib.hid hy
  clear b1 b2 hy hno
  cases ab
  · go_wp2
    go_ret
    exact ⟨rfl, B2.out⟩
  have V2 := Lib.hid (Hy.out rfl)
  have hst := size_B t
  by_cases hbig : ((B t).size : Int) > 5000
  · clear hst
    go_wp2
    go_ret
    exact ⟨rfl, B2.out⟩
  have htl : t.length ≤ 5000 := by omega
  clear hst
  have HU := Lib.hid (fun w0 => inode_Unpack t (by omega) w0)
  obtain ⟨pe, hpe⟩ : ∃ pe, packE l = pe := ⟨_, rfl⟩
  have Hpe := Lib.hid hpe
  have hpc := packE_cases l
  rw [hpe] at hpc
  go_wp2_with fail
  refine (inode_Pack v l (by omega) Hfit.out _ (Hv.out.below B2.out)).mono ?_
  rintro e w3 ⟨rfl, hb3⟩
  rw [hpe]
  have B3 := Lib.hid (step_call B2.out hb3)
  have V3 := Lib.hid (V2.out.below hb3)
  clear hb3 hpe
  have hx : pe ≠ 0 ∨ pe = 0 := by omega
  rcases hx with hx | hx
  · have q1 : (pe == 0) = false := by rw [beq_eq_false_iff_ne]; exact hx
    have BB := B3
    clear hx
    generalize packT l = pt at *
    cases hu : unpL t with
    | error n =>
      have hn7 := unp_err hu
      rw [hu] at HU
      have q2 : (n != 0) = true := by rw [bne_iff_ne]; omega
      clear hu
      go_wp2_with fail
      refine (HU.out _).mono ?_
      rintro e w6 ⟨rfl, hb6⟩
      go_wp2
      go_ret
      exact ⟨rfl, step_call BB.out hb6⟩
    | ok l2 =>
      obtain ⟨he2, ht2, hr2⟩ := pack_unp hu
      rw [hu] at HU
      have HP := Lib.hid (fun v0 w0 h => inode_Pack v0 l2 (by have := (right_few hr2).1; omega) (right_fit hr2) w0 h)
      rw [he2, ht2] at HP
      have q2 : ((B t).toList == (B t).toList) = true := by simp
      clear hu he2 ht2 hr2
      go_wp2_with fail
      refine (HU.out _).mono ?_
      rintro e w6 ⟨⟨v6, rfl, hf6⟩, hb6⟩
      go_wp2_with fail
      refine (HP.out _ _ hf6).mono ?_
      rintro e w7 ⟨rfl, hb7⟩
      go_wp2
      go_ret
      exact ⟨rfl, step_call BB.out (step_call hb6 hb7)⟩
  · subst hx
    obtain ⟨hup, hpl⟩ := unp_pack Hpe.out
    have HU1 := Lib.hid (fun w0 => inode_Unpack (packT l) (by omega) w0)
    rw [hup] at HU1
    clear hup hpl hpc
    generalize packT l = pt at *
    go_wp2_with fail
    refine (HU1.out _).mono ?_
    rintro e w4 ⟨⟨v4, rfl, hf4⟩, hb4⟩
    have V4 := Lib.hid (V3.out.below hb4)
    have HS := Lib.hid (law_same v4 v2 l (by omega) Hfit.out w4 hf4 V4.out)
    go_wp2_with (first | (go_at_call 16; refine HS.out.mono ?_; rintro e w5 ⟨rfl, hb5⟩) | fail)
    have BB := Lib.hid (step_call (step_call B3.out hb4) hb5)
    clear hb4 hb5
    cases hu : unpL t with
    | error n =>
      have hn7 := unp_err hu
      rw [hu] at HU
      have q2 : (n != 0) = true := by rw [bne_iff_ne]; omega
      clear hu
      refine (HU.out _).mono ?_
      rintro e w6 ⟨rfl, hb6⟩
      go_wp2
      go_ret
      exact ⟨rfl, step_call BB.out hb6⟩
    | ok l2 =>
      obtain ⟨he2, ht2, hr2⟩ := pack_unp hu
      rw [hu] at HU
      have HP := Lib.hid (fun v0 w0 h => inode_Pack v0 l2 (by have := (right_few hr2).1; omega) (right_fit hr2) w0 h)
      rw [he2, ht2] at HP
      have q2 : ((B t).toList == (B t).toList) = true := by simp
      clear hu he2 ht2 hr2
      refine (HU.out _).mono ?_
      rintro e w6 ⟨⟨v6, rfl, hf6⟩, hb6⟩
      go_wp2_with fail
      refine (HP.out _ _ hf6).mono ?_
      rintro e w7 ⟨rfl, hb7⟩
      go_wp2
      go_ret
      exact ⟨rfl, step_call BB.out (step_call hb6 hb7)⟩
end Go.Proofs.YteemloillnfaeaaDoor
