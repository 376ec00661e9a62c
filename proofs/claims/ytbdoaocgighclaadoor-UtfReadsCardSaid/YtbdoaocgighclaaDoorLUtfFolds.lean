/- The law UtfFolds returns true for every text. Condition: the tables are laid. -/
import Derived.Test.YtbdoaocgighclaaDoorUtfM
namespace Go.Proofs.YtbdoaocgighclaaDoor
open Go.RowKit Go.Utf Go.Lib Go.Shelf

theorem str_same (a : ByteArray) : (a.toList == a.toList) = true := beq_self_eq_true _
set_option maxRecDepth 100000 in
set_option maxHeartbeats 1600000 in
theorem walk_UtfFolds (s : ByteArray) (_ : s.size ≤ maxLen) (w : World) (hT : Tabs w) :
    Calls Tryd.prog 3 #[.string s] w fun e w' => e = .returned (.bool true) ∧ Below w.heap.size w w' := by
  have Hsh := Lib.hid (law_shown w hT)
  have HT := Lib.hid hT
  clear hT
  by_cases h : 1000 < s.size
  · have hz : (1000 : Int) < (s.size : Int) := by omega
    go_enter Tryd.func3, Tryd.ntmps3
    go_wp2_with (go_at_call 9; refine Hsh.out.mono ?_; rintro e w1 ⟨rfl, hb⟩; have Hb := Lib.hid hb; clear hb)
    go_ret
    exact ⟨rfl, Hb.out⟩
  · have hz : (s.size : Int) ≤ 1000 := by omega
    have h9 : s.size ≤ 1000000000 := by omega
    have HF := Lib.hid (fun w' (b : Below w.heap.size w w') => utf_Folded s h9 w' (HT.out.below b))
    have HG := Lib.hid (fun w' => ref10_Folded s h9 w')
    have hst := str_same (B (foldL (L s)))
    generalize B (foldL (L s)) = f at HF HG hst
    go_enter Tryd.func3, Tryd.ntmps3
    go_wp2_with (first
      | (go_at_call 9; refine Hsh.out.mono ?_; rintro e w1 ⟨rfl, hb⟩; have Hb := Lib.hid hb; clear hb)
      | (go_at_call 10; refine (HF.out _ Hb.out).mono ?_; rintro e w2 ⟨rfl, hb⟩; have Hb2 := Lib.hid (step_call Hb.out hb); clear hb)
      | (go_at_call 11; refine (HG.out _).mono ?_; rintro e w3 ⟨rfl, hb⟩; have Hb3 := Lib.hid (step_call Hb2.out hb); clear hb))
    go_ret
    exact ⟨by first | rfl | simp, Hb3.out⟩
end Go.Proofs.YtbdoaocgighclaaDoor
