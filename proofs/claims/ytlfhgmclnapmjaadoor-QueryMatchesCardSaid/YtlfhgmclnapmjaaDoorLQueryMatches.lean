/- The law QueryMatches returns true for every query and every text. Condition: the tables are laid. -/
import Derived.Test.YtlfhgmclnapmjaaDoorQryTm
import Derived.Deep.RegionWith
namespace Go.Proofs.YtlfhgmclnapmjaaDoor
open Go.RowKit Go.Utf Go.Qry Go.Lib
attribute [local go_sem] Oper.semAt_some

set_option maxRecDepth 100000 in
set_option maxHeartbeats 12800000 in
theorem walk_QueryMatches (n : Nat) (q : Qy) (vm vs vn : Value) (s : ByteArray) (w : World) (h : QVal w n q vm vs vn) (_ : s.size ≤ maxLen) (hT : Tabs w) :
    Calls Tryd.prog 3 #[qV q vm vs vn, .string s] w fun e w' => e = .returned (.bool true) ∧ Below w.heap.size w w' := by
  have HS := Lib.hid (fun (w' : World) (hb : Below w.heap.size w w') => law_shown17 w' (hT.below hb))
  have HM := Lib.hid (fun (w' : World) (hb : Below w.heap.size w w') => law_small17 n q vm vs vn w' (h.below hb))
  have HR := Lib.hid (fun (w' : World) (hb : Below w.heap.size w w') => ref17_Right n q vm vs vn w' (h.below hb))
  have Hq := Lib.hid h
  have HT := Lib.hid hT
  have b0 := step_new (Below.refl w.heap.size w) (.cells #[.int .i64 q.kind, .string (B q.text), vm, vs, vn] 24)
  have Hb0 := Lib.hid b0
  obtain ⟨a0, a1, a2, a3, a4⟩ := boxedQ w q vm vs vn 24
  have A0 := Lib.hid a0
  have A1 := Lib.hid a1
  have A2 := Lib.hid a2
  have A3 := Lib.hid a3
  have A4 := Lib.hid a4
  have Hsm := Lib.hid (smallQ_cnt q)
  clear b0 a0 a1 a2 a3 a4 h hT
  unfold qV at HM HR
  generalize hw1 : w.alloc (.cells #[.int .i64 q.kind, .string (B q.text), vm, vs, vn] 24) = w1 at *
  have Hw1 := Lib.hid hw1
  clear hw1
  show Calls Tryd.prog 3 #[.agg #[.int .i64 q.kind, .string (B q.text), vm, vs, vn], .string s] w _
  generalize smallQ q = sm at *
  generalize rightB q = rt at *
  go_enter Tryd.func3, Tryd.ntmps3
  go_wp2_with fail
  rw [Hw1.out]
  refine (HS.out _ Hb0.out).mono ?_
  rintro e w2 ⟨rfl, hb2⟩
  have B2 := Lib.hid (step_call Hb0.out hb2)
  have a0 := cell_call hb2 A0.out
  have a1 := cell_call hb2 A1.out
  have a2 := cell_call hb2 A2.out
  have a3 := cell_call hb2 A3.out
  have a4 := cell_call hb2 A4.out
  clear hb2
  go_wp2_with fail
  refine (HM.out _ B2.out).mono ?_
  rintro e w3 ⟨rfl, hb3⟩
  have B3 := Lib.hid (step_call B2.out hb3)
  have a0 := cell_call hb3 a0
  have a1 := cell_call hb3 a1
  have a2 := cell_call hb3 a2
  have a3 := cell_call hb3 a3
  have a4 := cell_call hb3 a4
  clear hb3
  go_wp2_with fail
  refine (HR.out _ B3.out).mono ?_
  rintro e w4 ⟨rfl, hb4⟩
  have B4 := Lib.hid (step_call B3.out hb4)
  have a0 := cell_call hb4 a0
  have a1 := cell_call hb4 a1
  have a2 := cell_call hb4 a2
  have a3 := cell_call hb4 a3
  have a4 := cell_call hb4 a4
  clear hb4
  cases sm
  case false =>
    clear Hsm
    cases rt
    all_goals
      go_wp2
      go_ret
      exact ⟨rfl, B4.out⟩
  case true =>
    cases rt
    case false =>
      clear Hsm
      go_wp2
      go_ret
      exact ⟨rfl, B4.out⟩
    case true =>
      obtain ⟨hcn, hsh⟩ := Hsm.out rfl
      clear Hsm
      by_cases hs : s.size ≤ 1500
      · have hsi : ¬ 1500 < (s.size : Int) := by omega
        have HTk := Lib.hid (ref11_Tokens s (by omega) w4)
        have hcnt := tokens_count s (by omega)
        have Hlb := Lib.hid (toks_bound s (by omega))
        clear hs
        go_wp2_with fail
        refine HTk.out.mono ?_
        rintro e w5 ⟨v, rfl, hb5, hown⟩
        have B5 := Lib.hid (step_call B4.out hb5)
        have a0 := cell_call hb5 a0
        have a1 := cell_call hb5 a1
        have a2 := cell_call hb5 a2
        have a3 := cell_call hb5 a3
        have a4 := cell_call hb5 a4
        have Ht := own_toks hown
        generalize tokensL (L s) = l at *
        have HA := Lib.hid (fun (w' : World) (hb : Below w5.heap.size w5 w') => query_Matches l v Hlb.out hcnt n q vm vs vn w' (Hq.out.below (step_call B5.out hb)) hsh (Ht.below hb) (HT.out.below (step_call B5.out hb)))
        have HB := Lib.hid (fun (w' : World) (hb : Below w5.heap.size w5 w') => ref17_Matches l v Hlb.out hcnt n q vm vs vn w' (Hq.out.below (step_call B5.out hb)) hsh (Ht.below hb))
        unfold qV at HA HB
        generalize matB l q = mm at *
        clear hb5 hown Ht HTk
        cases mm
        all_goals
          go_wp2
          go_region_with (first
            | (go_at_call 13; refine (HA.out _ ?_).mono ?_; (first | exact below_drew _ | exact step_call (below_drew _) hb6); rintro e w7 ⟨rfl, hb7⟩; have a0 := cell_call hb7 a0; have a1 := cell_call hb7 a1; have a2 := cell_call hb7 a2; have a3 := cell_call hb7 a3; have a4 := cell_call hb7 a4)
            | (go_at_call 14; refine (HB.out _ ?_).mono ?_; (first | exact below_drew _ | exact step_call (below_drew _) hb7); rintro e w6 ⟨rfl, hb6⟩; have a0 := cell_call hb6 a0; have a1 := cell_call hb6 a1; have a2 := cell_call hb6 a2; have a3 := cell_call hb6 a3; have a4 := cell_call hb6 a4))
          all_goals
            go_wp2
            go_ret
            first
            | exact ⟨rfl, step_call (step_call (step_call B5.out (below_drew _)) hb6) hb7⟩
            | exact ⟨rfl, step_call (step_call (step_call B5.out (below_drew _)) hb7) hb6⟩
      · have hsi : 1500 < (s.size : Int) := by omega
        go_wp2
        go_ret
        exact ⟨rfl, B4.out⟩
end Go.Proofs.YtlfhgmclnapmjaaDoor
