/- The law QueryRight returns true for every query and every text. Condition: the tables are laid. -/
import Derived.Test.YtlfhgmclnapmjaaGreatDoorQryLs
import Derived.Test.YtlfhgmclnapmjaaGreatDoorQryRt
import Derived.Deep.RegionWith
import Derived.BigQuiet
namespace Go.Proofs.YtlfhgmclnapmjaaGreatDoor
open Go.RowKit Go.Utf Go.Qry Go.Lib
attribute [local go_sem] Oper.semAt_some

set_option maxRecDepth 100000 in
set_option maxHeartbeats 12800000 in
theorem walk_QueryRight (n : Nat) (q : Qy) (vm vs vn : Value) (s : ByteArray) (w : World) (h1 : QVal w n q vm vs vn) (_ : s.size ≤ maxLen) (hT : Tabs w) :
    Calls Tryz.prog 3 #[qV q vm vs vn, .string s] w fun e w' => e = .returned (.bool true) ∧ Below w.heap.size w w' := by
  have HS := Lib.hid (fun (w' : World) (hb : Below w.heap.size w w') => law_shown17 w' (hT.below hb))
  have HMa := Lib.hid (fun (w' : World) (hb : Below w.heap.size w w') => law_short n q vm vs vn w' (h1.below hb))
  have HSa := Lib.hid (fun (w' : World) (hb : Below w.heap.size w w') => query_Size n q vm vs vn w' (h1.below hb))
  have HSb := Lib.hid (fun (w' : World) (hb : Below w.heap.size w w') => ref17_Size n q vm vs vn w' (h1.below hb))
  have HRa := Lib.hid (fun (w' : World) (hb : Below w.heap.size w w') => query_Right n q vm vs vn w' (h1.below hb) (hT.below hb))
  have HRb := Lib.hid (fun (w' : World) (hb : Below w.heap.size w w') => ref17_Right n q vm vs vn w' (h1.below hb))
  have H1 := Lib.hid h1
  have HT := Lib.hid hT
  obtain ⟨a0, a1, a2, a3, a4⟩ := boxedQ w q vm vs vn 24
  have B1 := Lib.hid (step_new (Below.refl w.heap.size w) (.cells #[.int .i64 q.kind, .string (B q.text), vm, vs, vn] 24))
  generalize hw1 : w.alloc (.cells #[.int .i64 q.kind, .string (B q.text), vm, vs, vn] 24) = w1 at *
  have Hw1 := Lib.hid hw1
  have Hrt : Hid (rightB q = true → cnt q ≤ 100000) := Lib.hid (fun h => by have := ((right_iff q).1 h).1; omega)
  have HTa := Lib.hid (fun (hs : shortB q = true) (hc : cnt q ≤ 100000) (w' : World) (hb : Below w.heap.size w w') => query_Terms n q vm vs vn w' (h1.below hb) hs hc (hT.below hb))
  have HTb := Lib.hid (fun (hs : shortB q = true) (hc : cnt q ≤ 100000) (w' : World) (hb : Below w.heap.size w w') => ref17_Terms n q vm vs vn w' (h1.below hb) hs hc)
  have Htl := Lib.hid (fun (hs : shortB q = true) (hc : cnt q ≤ 100000) => show (termsQ q).length ≤ 9223372036854775807 from by have := terms_len hs; omega)
  clear hw1 h1 hT
  unfold qV at HMa HRa HSa HSb HRb HTa HTb
  show Calls Tryz.prog 3 #[.agg #[.int .i64 q.kind, .string (B q.text), vm, vs, vn], .string s] w _
  generalize shortB q = sa at *
  generalize rightB q = ra at *
  generalize (sizeN q).1 = nn at *
  generalize (sizeN q).2 = dd at *
  go_enter Tryz.func3, Tryz.ntmps3
  go_wp2_with fail
  rw [Hw1.out]
  refine (HS.out w1 B1.out).mono ?_
  rintro e w2 ⟨rfl, hb⟩
  replace a0 := cell_call hb a0
  replace a1 := cell_call hb a1
  replace a2 := cell_call hb a2
  replace a3 := cell_call hb a3
  replace a4 := cell_call hb a4
  have B2 := Lib.hid (step_call B1.out hb)
  clear hb
  go_wp2_with fail
  refine (HMa.out w2 B2.out).mono ?_
  rintro e w3 ⟨rfl, hb⟩
  replace a0 := cell_call hb a0
  replace a1 := cell_call hb a1
  replace a2 := cell_call hb a2
  replace a3 := cell_call hb a3
  replace a4 := cell_call hb a4
  have B3 := Lib.hid (step_call B2.out hb)
  clear hb
  cases sa
  case false =>
    go_wp2
    go_ret
    exact ⟨rfl, B3.out⟩
  case true =>
    by_cases hsz : s.size ≤ 1000
    · have hsi : ¬ 1000 < (s.size : Int) := by omega
      go_wp2_with fail
      refine (HSa.out w3 B3.out).mono ?_
      rintro e w4 ⟨rfl, hb⟩
      replace a0 := cell_call hb a0
      replace a1 := cell_call hb a1
      replace a2 := cell_call hb a2
      replace a3 := cell_call hb a3
      replace a4 := cell_call hb a4
      have B4 := Lib.hid (step_call B3.out hb)
      clear hb
      go_wp2_with fail
      refine (HSb.out w4 B4.out).mono ?_
      rintro e w5 ⟨rfl, hb⟩
      replace a0 := cell_call hb a0
      replace a1 := cell_call hb a1
      replace a2 := cell_call hb a2
      replace a3 := cell_call hb a3
      replace a4 := cell_call hb a4
      have B5 := Lib.hid (step_call B4.out hb)
      clear hb
      go_wp2_with fail
      refine (HRb.out w5 B5.out).mono ?_
      rintro e w6 ⟨rfl, hb⟩
      replace a0 := cell_call hb a0
      replace a1 := cell_call hb a1
      replace a2 := cell_call hb a2
      replace a3 := cell_call hb a3
      replace a4 := cell_call hb a4
      have B6 := Lib.hid (step_call B5.out hb)
      clear hb
      have hn1 : ((nn : Int) != (nn : Int)) = false := by simp
      have hn2 : ((dd : Int) != (dd : Int)) = false := by simp
      have hn3 : (ra != ra) = false := by simp
      go_wp2_with fail
      refine (HRa.out w6 B6.out).mono ?_
      rintro e w7 ⟨rfl, hb⟩
      replace a0 := cell_call hb a0
      replace a1 := cell_call hb a1
      replace a2 := cell_call hb a2
      replace a3 := cell_call hb a3
      replace a4 := cell_call hb a4
      have B7 := Lib.hid (step_call B6.out hb)
      clear hb
      have HP := query_Phrase (L s) (by rw [length_L]; omega)
      have HQ := ref17_Phrase (L s) (by rw [length_L]; omega)
      rw [B_L] at HP HQ
      have hpl := phrase_len (L s) (by rw [length_L]; omega)
      have HP := Lib.hid HP
      have HQ := Lib.hid HQ
      generalize phraseL (L s) = P at *
      generalize hok : decide (0 < P.length) = ok at *
      clear hok
      go_wp2_with fail
      refine (HP.out w7 (HT.out.below B7.out)).mono ?_
      rintro e w8 ⟨vp, rfl, hb, hown⟩
      replace a0 := cell_call hb a0
      replace a1 := cell_call hb a1
      replace a2 := cell_call hb a2
      replace a3 := cell_call hb a3
      replace a4 := cell_call hb a4
      have B8 := Lib.hid (step_call B7.out hb)
      have Hp := Lib.hid (own_toks hown)
      clear hown
      clear hb
      go_wp2_with fail
      refine (HQ.out w8).mono ?_
      rintro e w9 ⟨vq, rfl, hb, hown⟩
      replace a0 := cell_call hb a0
      replace a1 := cell_call hb a1
      replace a2 := cell_call hb a2
      replace a3 := cell_call hb a3
      replace a4 := cell_call hb a4
      replace Hp := Lib.hid (Hp.out.below hb)
      have B9 := Lib.hid (step_call B8.out hb)
      have Hq := Lib.hid (own_toks hown)
      clear hown
      clear hb
      go_wp2_with fail
      refine (law_same17 vp vq P (by omega) w9 Hp.out Hq.out).mono ?_
      rintro e w10 ⟨rfl, hb⟩
      replace a0 := cell_call hb a0
      replace a1 := cell_call hb a1
      replace a2 := cell_call hb a2
      replace a3 := cell_call hb a3
      replace a4 := cell_call hb a4
      replace Hp := Lib.hid (Hp.out.below hb)
      replace Hq := Lib.hid (Hq.out.below hb)
      have B10 := Lib.hid (step_call B9.out hb)
      clear hb
      have hkk : (ok != ok) = false := by simp
      clear Hp Hq HP HQ
      cases ra
      case false =>
        go_wp2
        go_quiet (fail)
        go_wp2
        go_ret
        exact ⟨rfl, below_to_drewN B10.out _⟩
      case true =>
        have hc := Hrt.out rfl
        have HX := Lib.hid (fun (w' : World) (hb : Below w10.heap.size w10 w') => HTa.out (by first | rfl | trivial) hc w' (step_call B10.out hb))
        have HY := Lib.hid (fun (w' : World) (hb : Below w10.heap.size w10 w') => HTb.out (by first | rfl | trivial) hc w' (step_call B10.out hb))
        have htl := Htl.out (by first | rfl | trivial) hc
        generalize termsQ q = tq at *
        clear HTa HTb Htl Hrt hc HRa HRb HSa HSb HMa HS
        go_wp2
        go_region_with (first
          | (go_at_call 14; refine (HX.out _ ?_).mono ?_; (first | exact below_drew _ | exact step_call (below_drew _) hb7); rintro e x6 ⟨v6, rfl, hb6, ho6⟩; replace a0 := cell_call hb6 a0; replace a1 := cell_call hb6 a1; replace a2 := cell_call hb6 a2; replace a3 := cell_call hb6 a3; replace a4 := cell_call hb6 a4)
          | (go_at_call 15; refine (HY.out _ ?_).mono ?_; (first | exact below_drew _ | exact step_call (below_drew _) hb6); rintro e x7 ⟨v7, rfl, hb7, ho7⟩; replace a0 := cell_call hb7 a0; replace a1 := cell_call hb7 a1; replace a2 := cell_call hb7 a2; replace a3 := cell_call hb7 a3; replace a4 := cell_call hb7 a4)
          | (go_at_call 13; refine (law_sameTexts17 v6 v7 tq htl _ (own_row (by first | exact ho6 | exact own_below ho6 hb7)) (own_row (by first | exact ho7 | exact own_below ho7 hb6))).mono ?_; rintro e x8 ⟨rfl, hb8⟩))
        all_goals
          go_wp2
          go_ret
          first
          | exact ⟨rfl, step_call (step_call (step_call (step_call B10.out (below_drew _)) hb6) hb7) hb8⟩
          | exact ⟨rfl, step_call (step_call (step_call (step_call B10.out (below_drew _)) hb7) hb6) hb8⟩
    · have hsi : 1000 < (s.size : Int) := by omega
      go_wp2
      go_ret
      exact ⟨rfl, B3.out⟩
end Go.Proofs.YtlfhgmclnapmjaaGreatDoor
