/- The law DictFinds returns true for every list, text and place. Condition: lengths and numbers fit an int. -/
import Derived.Test.YtefnddhondbjbaaLDictReads
import Derived.Test.YtefnddhondbjbaaDictFinds
namespace Go.Proofs.Ytefnddhondbjbaa
open Go.RowKit Go.Wir Go.Dic

theorem asOk_len {l : List Ent} (h : asOk l = true) : l.length ≤ 300 := by
  unfold asOk at h
  simp only [Bool.and_eq_true, decide_eq_true_eq] at h
  exact h.1.1
set_option maxRecDepth 100000 in
set_option maxHeartbeats 3200000 in
theorem walk_DictFinds (v : Value) (l : List Ent) (t : ByteArray) (at0 n0 : Int) (w : World) (hv : Ents w v l) (hz : ∀ e ∈ l, e.1.length ≤ maxLen ∧ e.2.length ≤ maxLen) (hn : l.length ≤ maxLen) (ht : t.size ≤ maxLen)
    (hat : (Lit.int .i64 at0).wf = true) (hn0 : (Lit.int .i64 n0).wf = true) :
    Calls Try.prog 4 #[v, .string t, .int .i64 at0, .int .i64 n0] w fun e w' => e = .returned (.bool true) ∧ Below w.heap.size w w' := by
  unfold maxLen at hz hn ht
  have hat := bounds_i64 hat
  have hn0 := bounds_i64 hn0
  have Hz := Lib.hid hz
  have Hv := Lib.hid hv
  clear hz hv
  cases hok : asOk l with
  | false =>
    go_enter Try.func4, Try.ntmps4
    go_wp2_with fail
    refine (shown13 w).mono ?_
    rintro e w1 ⟨rfl, b1⟩
    have B1 := Lib.hid b1
    clear b1
    go_wp2_with fail
    refine (law_as v l (by omega) Hz.out _ (Hv.out.below B1.out)).mono ?_
    rintro e w2 ⟨b2, h2⟩
    unfold AsPost at h2
    rw [hok, if_neg (by simp)] at h2
    subst h2
    have B2 := Lib.hid (step_call B1.out b2)
    clear b2 hok
    go_wp2_with fail
    refine (ref13_Right_nil none 0 _).mono ?_
    rintro e w3 ⟨rfl, b3⟩
    have B3 := Lib.hid (step_call B2.out b3)
    clear b3
    go_wp2
    go_ret
    exact ⟨rfl, B3.out⟩
  | true =>
    have hl3 := asOk_len hok
    go_enter Try.func4, Try.ntmps4
    go_wp2_with fail
    refine (shown13 w).mono ?_
    rintro e w1 ⟨rfl, b1⟩
    have B1 := Lib.hid b1
    clear b1
    go_wp2_with fail
    refine (law_as v l (by omega) Hz.out _ (Hv.out.below B1.out)).mono ?_
    rintro e w2 ⟨b2, h2⟩
    unfold AsPost at h2
    rw [hok, if_pos rfl] at h2
    obtain ⟨v', rfl, hv'⟩ := h2
    have B2 := Lib.hid (step_call B1.out b2)
    have V2 := Lib.hid hv'
    clear b2 hok hv'
    go_wp2_with fail
    refine (ref13_Right v' l _ V2.out (by omega) Hz.out).mono ?_
    rintro e w3 ⟨rfl, b3⟩
    have B3 := Lib.hid (step_call B2.out b3)
    clear b3
    cases hr : right l with
    | false =>
      clear hr
      go_wp2
      go_ret
      exact ⟨rfl, B3.out⟩
    | true =>
      by_cases h2 : 200 < t.size
      · clear hr
        go_wp2
        go_ret
        exact ⟨rfl, B3.out⟩
      have Hr := Lib.hid hr
      clear hr
      go_wp2_with fail
      refine (dict_Pack_right v l _ (Hv.out.below B3.out) Hr.out).mono ?_
      rintro e w4 ⟨rfl, b4⟩
      have B4 := Lib.hid (step_call B3.out b4)
      clear b4
      have Hf := Lib.hid (law_finds l Hr.out hl3)
      generalize B (bytesL l) = bs at *
      go_wp2_with fail
      refine (Hf.out t (by omega) v _ (Hv.out.below B4.out)).mono ?_
      rintro e w5 ⟨rfl, b5⟩
      have B5 := Lib.hid (step_call B4.out b5)
      clear b5
      by_cases h0 : 0 < l.length
      · obtain ⟨b, off, cap, rfl, hb, hcell⟩ := ents_row Hv.out h0
        have hk := pickN_lt at0 l.length h0
        obtain ⟨c1, _⟩ := hcell _ hk
        have hsm := (right_small Hr.out).1 _ (List.getElem_mem hk)
        have c1 := cell_below B5.out hb c1
        have hl0 : ((l.length : Int) == 0) = false := by rw [beq_eq_false_iff_ne]; omega
        unfold small at hsm
        obtain ⟨hsm, _⟩ := hsm
        clear hcell
        generalize l[pickN at0 l.length].1 = x at *
        have hx := size_B x
        go_wp2_with fail
        refine (law_pick at0 l.length hat.1 hat.2 h0 (by omega) _).mono ?_
        rintro e w6 ⟨rfl, rfl⟩
        generalize pickN at0 l.length = k at *
        have hk1 : (k : Int) < (l.length : Int) := by omega
        go_wp2_with fail
        refine (Hf.out (B x) (by omega) _ _ (Hv.out.below B5.out)).mono ?_
        rintro e w6 ⟨rfl, b6⟩
        have B6 := Lib.hid (step_call B5.out b6)
        clear b6 c1
        have hk2 := pickN_lt n0 ((B x).size + 1) (by omega)
        have Hpk := Lib.hid (law_pick n0 ((B x).size + 1) hn0.1 hn0.2 (by omega) (by omega))
        rw [show (((B x).size + 1 : Nat) : Int) = ((B x).size : Int) + 1 by omega] at Hpk
        generalize pickN n0 ((B x).size + 1) = j at *
        have hj1 : (j : Int) ≤ ((B x).size : Int) := by omega
        go_wp2_with fail
        refine (Hpk.out _).mono ?_
        rintro e w7 ⟨rfl, rfl⟩
        have hex : ((B x).extract 0 j).size ≤ 9223372036854775807 := by rw [ByteArray.size_extract]; omega
        go_wp2_with fail
        refine (Hf.out ((B x).extract 0 j) hex _ _ (Hv.out.below B6.out)).mono ?_
        rintro e w7 ⟨rfl, b7⟩
        have B7 := Lib.hid (step_call B6.out b7)
        clear b7
        go_wp2
        go_ret
        exact ⟨rfl, B7.out⟩
      · obtain rfl : l = [] := List.eq_nil_of_length_eq_zero (by omega)
        obtain ⟨a1, cc1, rfl⟩ := ents_nil Hv.out
        go_wp2
        go_ret
        exact ⟨rfl, B5.out⟩
end Go.Proofs.Ytefnddhondbjbaa
