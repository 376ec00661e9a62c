/- The law DictBack returns true for every list and text. Condition: lengths fit an int. -/
import Derived.Test.YtefnddhondbjbaaShown13
namespace Go.Proofs.Ytefnddhondbjbaa
open Go.RowKit Go.Wir Go.Dic

/-- dict.Unpack's answer by its bytes: a right list that has them, or none. -/
theorem unp_cases (s : List UInt8) : (∃ l, unpD s = some l ∧ right l = true ∧ bytesL l = s) ∨ unpD s = none := by
  cases h : unpD s with
  | none => exact .inr rfl
  | some l => exact .inl ⟨l, rfl, (unpD_iff s l).1 h⟩
theorem dict_Unpack_none (s : ByteArray) (hs : s.size ≤ 549755813888) (h : unpD (L s) = none) (w : World) :
    Calls Try.prog 20 #[.string s] w fun e w' => e = .returned (.tuple #[.slice none 0 0, .int .i64 7]) ∧ Below w.heap.size w w' := by
  have := dict_Unpack s hs w
  rw [h] at this
  exact this.mono fun e w' h => ⟨h.2, h.1⟩
theorem dict_Unpack_some (s : ByteArray) (hs : s.size ≤ 549755813888) (l : List Ent) (h : unpD (L s) = some l) (w : World) :
    Calls Try.prog 20 #[.string s] w fun e w' => Below w.heap.size w w' ∧ ∃ v, e = .returned (.tuple #[v, .int .i64 0]) ∧ Ents w' v l := by
  have := dict_Unpack s hs w
  rw [h] at this
  exact this
theorem ref13_Unpack_none (s : ByteArray) (hs : s.size ≤ 549755813888) (h : unpD (L s) = none) (w : World) :
    Calls Try.prog 21 #[.string s] w fun e w' => e = .returned (.tuple #[.slice none 0 0, .int .i64 7]) ∧ Below w.heap.size w w' := by
  have := ref13_Unpack s hs w
  rw [← unp_same, h] at this
  exact this.mono fun e w' h => ⟨h.2, h.1⟩
theorem ref13_Unpack_some (s : ByteArray) (hs : s.size ≤ 549755813888) (l : List Ent) (h : unpD (L s) = some l) (w : World) :
    Calls Try.prog 21 #[.string s] w fun e w' => Below w.heap.size w w' ∧ ∃ v, e = .returned (.tuple #[v, .int .i64 0]) ∧ Ents w' v l := by
  have := ref13_Unpack s hs w
  rw [← unp_same, h] at this
  exact this
/-- dict.Pack at a right list, at one that is not. -/
theorem dict_Pack_right (v : Value) (l : List Ent) (w : World) (h : Ents w v l) (hr : right l = true) :
    Calls Try.prog 11 #[v] w fun e w' => e = .returned (.tuple #[.string (B (bytesL l)), .int .i64 0]) ∧ Below w.heap.size w w' := by
  obtain ⟨h1, h2⟩ := right_small hr
  have := dict_Pack v l w h (by omega) (fun e he => by have := h1 e he; unfold small at this; omega)
  rw [show packL l = bytesL l by unfold packL; rw [hr]; rfl, show packE l = 0 by unfold packE; rw [hr]; rfl] at this
  exact this
theorem packE_wrong {l : List Ent} (h : right l = false) : packE l = 1 := by unfold packE; rw [h]; rfl
theorem packL_wrong {l : List Ent} (h : right l = false) : packL l = [] := by unfold packL; rw [h]; rfl
theorem dict_Pack_wrong (v : Value) (l : List Ent) (w : World) (h : Ents w v l) (hr : right l = false) (hn : l.length ≤ 9223372036854775807) (hz : ∀ e ∈ l, e.1.length ≤ 9223372036854775807 ∧ e.2.length ≤ 9223372036854775807) :
    Calls Try.prog 11 #[v] w fun e w' => e = .returned (.tuple #[.string ⟨#[]⟩, .int .i64 1]) ∧ Below w.heap.size w w' := by
  have := dict_Pack v l w h hn hz
  rw [packL_wrong hr, packE_wrong hr] at this
  exact this

set_option maxRecDepth 100000 in
set_option maxHeartbeats 3200000 in
theorem walk_DictBack (v : Value) (l : List Ent) (s : ByteArray) (w : World) (hv : Ents w v l) (hz : ∀ e ∈ l, e.1.length ≤ maxLen ∧ e.2.length ≤ maxLen) (hn : l.length ≤ maxLen) (hs : s.size ≤ maxLen) :
    Calls Try.prog 8 #[v, .string s] w fun e w' => e = .returned (.bool true) ∧ Below w.heap.size w w' := by
  unfold maxLen at hz hn hs
  have Hz := Lib.hid hz
  have Hv := Lib.hid hv
  clear hz hv
  cases hok : asOk l with
  | false =>
    go_enter Try.func8, Try.ntmps8
    go_wp2_with fail
    refine (shown13 w).mono ?_
    rintro e w1 ⟨rfl, b1⟩
    have B1 := Lib.hid b1
    clear b1
    go_wp2_with fail
    refine (law_as v l (by omega) Hz.out _ (Hv.out.below B1.out)).mono ?_
    rintro e w2 ⟨b2, h2⟩
    unfold AsPost at h2
    rw [hok, if_neg (by simp)] at h2
    subst h2
    have B2 := Lib.hid (step_call B1.out b2)
    clear b2 hok
    go_wp2
    go_ret
    exact ⟨rfl, B2.out⟩
  | true =>
    have hl3 : l.length ≤ 300 := by
      unfold asOk at hok
      simp only [Bool.and_eq_true, decide_eq_true_eq] at hok
      exact hok.1.1
    by_cases h3 : 3000 < s.size
    · go_enter Try.func8, Try.ntmps8
      go_wp2_with fail
      refine (shown13 w).mono ?_
      rintro e w1 ⟨rfl, b1⟩
      have B1 := Lib.hid b1
      clear b1
      go_wp2_with fail
      refine (law_as v l (by omega) Hz.out _ (Hv.out.below B1.out)).mono ?_
      rintro e w2 ⟨b2, h2⟩
      unfold AsPost at h2
      rw [hok, if_pos rfl] at h2
      obtain ⟨v', rfl, hv'⟩ := h2
      have B2 := Lib.hid (step_call B1.out b2)
      have V2 := Lib.hid hv'
      clear b2 hok hv'
      go_wp2
      go_ret
      exact ⟨rfl, B2.out⟩
    go_enter Try.func8, Try.ntmps8
    go_wp2_with fail
    refine (shown13 w).mono ?_
    rintro e w1 ⟨rfl, b1⟩
    have B1 := Lib.hid b1
    clear b1
    go_wp2_with fail
    refine (law_as v l (by omega) Hz.out _ (Hv.out.below B1.out)).mono ?_
    rintro e w2 ⟨b2, h2⟩
    unfold AsPost at h2
    rw [hok, if_pos rfl] at h2
    obtain ⟨v', rfl, hv'⟩ := h2
    have B2 := Lib.hid (step_call B1.out b2)
    have V2 := Lib.hid hv'
    clear b2 hok hv'
    have hcont : ∀ (w4 : World), Below w.heap.size w w4 → True := fun _ _ => trivial
    clear hcont
    cases hr : right l with
    | true =>
      have hbl := bytesL_length hr hl3
      have Hu := Lib.hid (dict_Unpack_some (B (bytesL l)) (by rw [size_B]; exact hbl) l ((unpD_iff _ _).2 ⟨hr, rfl⟩))
      have Hp := Lib.hid (dict_Pack_right v l _ (Hv.out.below B2.out) hr)
      clear hr hbl
      go_wp2_with fail
      refine Hp.out.mono ?_
      rintro e w3 ⟨rfl, b3⟩
      have B3 := Lib.hid (step_call B2.out b3)
      have V3 := Lib.hid (V2.out.below b3)
      clear b3
      generalize bytesL l = bl at *
      go_wp2_with fail
      refine (Hu.out _).mono ?_
      rintro e w4 ⟨b4, vu, rfl, hvu⟩
      have B4 := Lib.hid (step_call B3.out b4)
      have V4 := Lib.hid (V3.out.below b4)
      have U4 := Lib.hid hvu
      clear b4 hvu
      go_wp2_with fail
      refine (law_same vu v' l (by omega) _ U4.out V4.out).mono ?_
      rintro e w5 ⟨rfl, b5⟩
      have B5 := Lib.hid (step_call B4.out b5)
      clear b5
      rcases unp_cases (L s) with ⟨l2, h4, h5, h6⟩ | h4
      · have Hu2 := Lib.hid (dict_Unpack_some s (by omega) l2 h4)
        have H5 := Lib.hid h5
        have H6 := Lib.hid h6
        have hq : ((B (bytesL l2)).toList == s.toList) = true := by rw [toList_B, toList_L, H6.out]; simp
        clear h4 h5 h6
        go_wp2_with fail
        refine (Hu2.out _).mono ?_
        rintro e w6 ⟨b6, vy, rfl, hvy⟩
        have B6 := Lib.hid (step_call B5.out b6)
        have Y6 := Lib.hid hvy
        clear b6 hvy
        go_wp2_with fail
        refine (dict_Pack_right vy l2 _ Y6.out H5.out).mono ?_
        rintro e w7 ⟨rfl, b7⟩
        have B7 := Lib.hid (step_call B6.out b7)
        clear b7
        go_wp2
        go_ret
        exact ⟨rfl, B7.out⟩
      · have Hu2 := Lib.hid (dict_Unpack_none s (by omega) h4)
        clear h4
        go_wp2_with fail
        refine (Hu2.out _).mono ?_
        rintro e w6 ⟨rfl, b6⟩
        have B6 := Lib.hid (step_call B5.out b6)
        clear b6
        go_wp2
        go_ret
        exact ⟨rfl, B6.out⟩
    | false =>
      have Hp := Lib.hid (dict_Pack_wrong v l _ (Hv.out.below B2.out) hr (by omega) Hz.out)
      clear hr
      go_wp2_with fail
      refine Hp.out.mono ?_
      rintro e w5 ⟨rfl, b5⟩
      have B5 := Lib.hid (step_call B2.out b5)
      clear b5
      rcases unp_cases (L s) with ⟨l2, h4, h5, h6⟩ | h4
      · have Hu2 := Lib.hid (dict_Unpack_some s (by omega) l2 h4)
        have H5 := Lib.hid h5
        have H6 := Lib.hid h6
        have hq : ((B (bytesL l2)).toList == s.toList) = true := by rw [toList_B, toList_L, H6.out]; simp
        clear h4 h5 h6
        go_wp2_with fail
        refine (Hu2.out _).mono ?_
        rintro e w6 ⟨b6, vy, rfl, hvy⟩
        have B6 := Lib.hid (step_call B5.out b6)
        have Y6 := Lib.hid hvy
        clear b6 hvy
        go_wp2_with fail
        refine (dict_Pack_right vy l2 _ Y6.out H5.out).mono ?_
        rintro e w7 ⟨rfl, b7⟩
        have B7 := Lib.hid (step_call B6.out b7)
        clear b7
        go_wp2
        go_ret
        exact ⟨rfl, B7.out⟩
      · have Hu2 := Lib.hid (dict_Unpack_none s (by omega) h4)
        clear h4
        go_wp2_with fail
        refine (Hu2.out _).mono ?_
        rintro e w6 ⟨rfl, b6⟩
        have B6 := Lib.hid (step_call B5.out b6)
        clear b6
        go_wp2
        go_ret
        exact ⟨rfl, B6.out⟩
end Go.Proofs.Ytefnddhondbjbaa
