/- The law UtfKinds returns true for every number and text. Condition: the tables are laid. -/
import Derived.Test.YtbdoaocgighclaaDoorLUtfFolds
namespace Go.Proofs.YtbdoaocgighclaaDoor
open Go.RowKit Go.Utf Go.Lib Go.Shelf

set_option maxRecDepth 100000 in
set_option maxHeartbeats 1600000 in
theorem walk_UtfKinds (r : Int) (s : ByteArray) (_ : (Lit.int .i64 r).wf = true) (_ : s.size ≤ maxLen) (w : World) (hT : Tabs w) :
    Calls Tryd.prog 4 #[.int .i64 r, .string s] w fun e w' => e = .returned (.bool true) ∧ Below w.heap.size w w' := by
  have Hsh := Lib.hid (law_shown w hT)
  have HT := Lib.hid hT
  clear hT
  by_cases h : 1000 < s.size
  · have hz : (1000 : Int) < (s.size : Int) := by omega
    go_enter Tryd.func4, Tryd.ntmps4
    go_wp2_with (go_at_call 9; refine Hsh.out.mono ?_; rintro e w1 ⟨rfl, hb⟩; have Hb := Lib.hid hb; clear hb)
    go_ret
    exact ⟨rfl, Hb.out⟩
  · have hz : (s.size : Int) ≤ 1000 := by omega
    have h9 : s.size ≤ 1000000000 := by omega
    have HK := Lib.hid (fun w' (b : Below w.heap.size w w') => utf_Kind r w' (HT.out.below b))
    have HK' := Lib.hid (fun w' => ref10_Kind r w')
    have HF := Lib.hid (fun w' => utf_Fold r w')
    have HF' := Lib.hid (fun w' => ref10_Fold r w')
    have HA := Lib.hid (fun w' => utf_Append s h9 r w')
    have HA' := Lib.hid (fun w' => ref10_Append s h9 r w')
    have hst := str_same (B (L s ++ runeT r))
    have hk : (kindN r == kindN r) = true := beq_self_eq_true _
    have hf : (foldN r == foldN r) = true := beq_self_eq_true _
    generalize B (L s ++ runeT r) = f at HA HA' hst
    generalize kindN r = k at HK HK' hk
    generalize foldN r = v at HF HF' hf
    go_enter Tryd.func4, Tryd.ntmps4
    go_wp2_with (first
      | (go_at_call 9; refine Hsh.out.mono ?_; rintro e w1 ⟨rfl, hb⟩; have Hb := Lib.hid hb; clear hb)
      | (go_at_call 12; refine (HK.out _ Hb.out).mono ?_; rintro e w2 ⟨rfl, hb⟩; have Hb2 := Lib.hid (step_call Hb.out hb); clear hb)
      | (go_at_call 13; refine (HK'.out _).mono ?_; rintro e w2' ⟨rfl, rfl⟩)
      | (go_at_call 14; refine (HF.out _).mono ?_; rintro e w3 ⟨rfl, hb⟩; have Hb3 := Lib.hid (step_call Hb2.out hb); clear hb)
      | (go_at_call 15; refine (HF'.out _).mono ?_; rintro e w3' ⟨rfl, rfl⟩)
      | (go_at_call 16; refine (HA.out _).mono ?_; rintro e w4 ⟨rfl, hb⟩; have Hb4 := Lib.hid (step_call Hb3.out hb); clear hb)
      | (go_at_call 17; refine (HA'.out _).mono ?_; rintro e w5 ⟨rfl, hb⟩; have Hb5 := Lib.hid (step_call Hb4.out hb); clear hb))
    go_ret
    exact ⟨by first | rfl | simp, Hb5.out⟩
end Go.Proofs.YtbdoaocgighclaaDoor
