/- The law TokenWords returns true for every text. Condition: the tables are laid. -/
import Derived.Test.YtpibflpmhhgbkaaDoorTokG
namespace Go.Proofs.YtpibflpmhhgbkaaDoor
open Go.RowKit Go.Utf Go.Lib
attribute [local go_sem] Oper.semAt_some

set_option maxRecDepth 100000 in
set_option maxHeartbeats 12800000 in
theorem walk_TokenWords (s : ByteArray) (_ : s.size ≤ maxLen) (w : World) (hT : Tabs w) :
    Calls Tryd.prog 3 #[.string s] w fun e w' => e = .returned (.bool true) ∧ Below w.heap.size w w' := by
  have HT := Lib.hid hT
  have HS := Lib.hid (law_shown w hT)
  clear hT
  by_cases hs : s.size ≤ 1500
  · have hs1 : ¬ (s.size : Int) > 1500 := by omega
    have hcnt := tokens_count s (by omega)
    have hcnt2 := terms_count (L s)
    go_enter Tryd.func3, Tryd.ntmps3
    go_wp2_with fail
    refine HS.out.mono ?_
    rintro e w0 ⟨rfl, hb0⟩
    have Hb0 := Lib.hid hb0
    clear hb0
    go_wp2_with fail
    refine (token_Tokens s (by omega) w0 (HT.out.below Hb0.out)).mono ?_
    rintro e w1 ⟨v1, rfl, hb1, ho1⟩
    have Hb1 := Lib.hid (step_call Hb0.out hb1)
    have Ht1 := Lib.hid (own_toks ho1)
    clear hb1 ho1
    go_wp2_with fail
    refine (ref11_Tokens s (by omega) w1).mono ?_
    rintro e w2 ⟨v2, rfl, hb2, ho2⟩
    have Hb2 := Lib.hid (step_call Hb1.out hb2)
    have Ht1' := Lib.hid (Ht1.out.below hb2)
    have Ht2 := Lib.hid (own_toks ho2)
    clear hb2 ho2
    go_wp2_with fail
    refine (law_same _ _ _ (by omega) _ Ht1'.out Ht2.out).mono ?_
    rintro e w3 ⟨rfl, hb3⟩
    have Hb3 := Lib.hid (step_call Hb2.out hb3)
    clear hb3
    go_wp2_with fail
    refine (terms_at s (by omega) _ rfl _ (HT.out.below Hb3.out)).mono ?_
    rintro e w4 ⟨v4, rfl, hb4, ht4⟩
    have Hb4 := Lib.hid (step_call Hb3.out hb4)
    have Ht4 := Lib.hid ht4
    clear hb4 ht4
    go_wp2_with fail
    refine (ref11_Terms s (by omega) _).mono ?_
    rintro e w5 ⟨v5, rfl, hb5, ho5⟩
    have Hb5 := Lib.hid (step_call Hb4.out hb5)
    have Ht4' := Lib.hid (Ht4.out.below hb5)
    have Ht5 := Lib.hid (own_row ho5)
    clear hb5 ho5
    go_wp2_with fail
    refine (law_sameTexts _ _ _ (by omega) _ Ht4'.out Ht5.out).mono ?_
    rintro e w6 ⟨rfl, hb6⟩
    have Hb6 := Lib.hid (step_call Hb5.out hb6)
    clear hb6
    go_wp2_with fail
    refine (token_Stop s _).mono ?_
    rintro e w7 ⟨rfl, rfl⟩
    go_wp2_with fail
    refine (ref11_Stop s _).mono ?_
    rintro e w8 ⟨rfl, hb8⟩
    have Hb8 := Lib.hid (step_call Hb6.out hb8)
    clear hb8
    go_wp2
    go_ret
    exact ⟨by simp, Hb8.out⟩
  · have hs1 : (s.size : Int) > 1500 := by omega
    go_enter Tryd.func3, Tryd.ntmps3
    go_wp2_with fail
    refine HS.out.mono ?_
    rintro e w0 ⟨rfl, hb0⟩
    go_wp2
    go_ret
    exact ⟨rfl, hb0⟩
end Go.Proofs.YtpibflpmhhgbkaaDoor
