/- Chapter 17: codexlaw17.short. Conditions: none. Chapter 17: codexlaw17.small. Conditions: as the calls'. -/
import Derived.Test.YtlfhgmclnapmjaaGreatDoorQryJ
namespace Go.Proofs.YtlfhgmclnapmjaaGreatDoor
open Go.RowKit Go.Utf Go.Qry
attribute [local go_sem] Oper.semAt_some

mutual
def shortB : Qy → Bool
  | .mk _ t a b c => decide (t.length ≤ 1000) && ((decide (a.length ≤ 1200) && shortL a) && ((decide (b.length ≤ 1200) && shortL b) && (decide (c.length ≤ 1200) && shortL c)))
def shortL : List Qy → Bool
  | [] => true
  | q :: l => shortB q && shortL l
end
theorem shortL_all : ∀ (l : List Qy), shortL l = l.all shortB
  | [] => rfl
  | q :: l => by rw [shortL, shortL_all l, List.all_cons]
def shortR (l : List Qy) : Bool := decide (l.length ≤ 1200) && l.all shortB
theorem shortB_eq (q : Qy) : shortB q = (decide (q.text.length ≤ 1000) && (shortR q.must && (shortR q.should && shortR q.nots))) := by
  cases q with
  | mk k t a b c =>
    rw [shortB, shortL_all, shortL_all, shortL_all]
    rfl
theorem shortR_long (l : List Qy) (h : 1200 < l.length) : shortR l = false := by
  unfold shortR; rw [decide_eq_false (by omega)]; rfl
theorem shortR_bad (l : List Qy) (b : Nat) (h : b < l.length) (hn : shortB l[b] = false) : shortR l = false := by
  unfold shortR
  rw [List.all_eq_false.2 ⟨l[b], List.getElem_mem h, by rw [hn]; simp⟩, Bool.and_false]
theorem shortT_snoc (l : List Qy) (b : Nat) (h : b < l.length) : (l.take (b + 1)).all shortB = ((l.take b).all shortB && shortB l[b]) := by
  rw [List.take_add_one, List.getElem?_eq_getElem h, List.all_append]
  simp
theorem shortR_ok (l : List Qy) (h : ¬ 1200 < l.length) (ha : (l.take l.length).all shortB = true) : shortR l = true := by
  unfold shortR
  rw [List.take_of_length_le (Nat.le_refl _)] at ha
  rw [decide_eq_true (by omega), ha]; rfl
/-- The lists that were found short so far. -/
def okS (q : Qy) (a : Nat) : Prop := (0 < a → shortR q.must = true) ∧ (1 < a → shortR q.should = true) ∧ (2 < a → shortR q.nots = true)
theorem okS_step (q : Qy) (a : Nat) (ha : a < 3) (h : okS q a) (hr : shortR (curK q a) = true) : okS q (a + 1) := by
  obtain ⟨h1, h2, h3⟩ := h
  rcases (show a = 0 ∨ a = 1 ∨ a = 2 by omega) with rfl | rfl | rfl
  · exact ⟨fun _ => hr, fun h => by omega, fun h => by omega⟩
  · exact ⟨fun _ => h1 (by omega), fun _ => hr, fun h => by omega⟩
  · exact ⟨fun _ => h1 (by omega), fun _ => h2 (by omega), fun _ => hr⟩
theorem okS_end (q : Qy) (h : okS q 3) (ht : q.text.length ≤ 1000) : shortB q = true := by
  obtain ⟨h1, h2, h3⟩ := h
  rw [shortB_eq, h1 (by omega), h2 (by omega), h3 (by omega), decide_eq_true ht]; rfl
theorem okS_no (q : Qy) (a : Nat) (ha : a < 3) (hr : shortR (curK q a) = false) : shortB q = false := by
  rw [shortB_eq]
  rcases (show a = 0 ∨ a = 1 ∨ a = 2 by omega) with rfl | rfl | rfl
  · rw [show shortR q.must = false from hr]; simp
  · rw [show shortR q.should = false from hr]; simp
  · rw [show shortR q.nots = false from hr]; simp
set_option maxRecDepth 100000 in
set_option maxHeartbeats 1600000 in
theorem law_short (n : Nat) : ∀ (q : Qy) (vm vs vn : Value) (w : World), QVal w n q vm vs vn → Calls Tryz.prog 5 #[qV q vm vs vn] w fun e w' => e = .returned (.bool (shortB q)) ∧ Below w.heap.size w w' := by
  induction n using Nat.strongRecOn with
  | _ n ih =>
    intro q vm vs vn w h
    obtain ⟨om, cm, rfl, lm, hm1⟩ := h.must.form
    obtain ⟨os, cs, rfl, ls, hs1⟩ := h.should.form
    obtain ⟨on, cn, rfl, ln, hn1⟩ := h.nots.form
    have Hm1 := Lib.hid hm1
    have Hs1 := Lib.hid hs1
    have Hn1 := Lib.hid hn1
    have IH := Lib.hid ih
    have hsz : (B q.text).size = q.text.length := size_B _
    have b0 := step_new (Below.refl w.heap.size w) (.cells #[.int .i64 q.kind, .string (B q.text), .slice om q.must.length cm, .slice os q.should.length cs, .slice on q.nots.length cn] 24)
    have B0 := Lib.hid b0
    obtain ⟨a0, a1, a2, a3, a4⟩ := boxedQ w q (.slice om q.must.length cm) (.slice os q.should.length cs) (.slice on q.nots.length cn) 24
    have Hb0 := Lib.hid (step_new b0 (.cells #[.slice om q.must.length cm, .slice os q.should.length cs, .slice on q.nots.length cn] 22))
    have g0 := heap_alloc_new (w.alloc (.cells #[.int .i64 q.kind, .string (B q.text), .slice om q.must.length cm, .slice os q.should.length cs, .slice on q.nots.length cn] 24)) (.cells #[.slice om q.must.length cm, .slice os q.should.length cs, .slice on q.nots.length cn] 22)
    rw [World.size_alloc] at g0
    have G0 := Lib.hid g0
    clear ih hm1 hs1 hn1 b0 g0
    by_cases ht : q.text.length ≤ 1000
    · have hti : ¬ 1000 < (q.text.length : Int) := by omega
      have Ht := Lib.hid ht
      show Calls Tryz.prog 5 #[.agg #[.int .i64 q.kind, .string (B q.text), .slice om q.must.length cm, .slice os q.should.length cs, .slice on q.nots.length cn]] w _
      go_enter Tryz.func5, Tryz.ntmps5
      go_wp2
      generalize (w.alloc (.cells #[.int .i64 q.kind, .string (B q.text), .slice om q.must.length cm, .slice os q.should.length cs, .slice on q.nots.length cn] 24)).alloc (.cells #[.slice om q.must.length cm, .slice os q.should.length cs, .slice on q.nots.length cn] 22) = w1 at *
      have Hg : Hid (w.heap.size + 1 < w1.heap.size) := Lib.hid (Array.getElem?_eq_some_iff.1 G0.out).1
      have z0 : w1.cell? ⟨w.heap.size + 1, 0, none⟩ = some (.slice om q.must.length cm) := by rw [Lib.cell_of_heap G0.out]; rfl
      have z1 : w1.cell? ⟨w.heap.size + 1, 1, none⟩ = some (.slice os q.should.length cs) := by rw [Lib.cell_of_heap G0.out]; rfl
      have z2 : w1.cell? ⟨w.heap.size + 1, 2, none⟩ = some (.slice on q.nots.length cn) := by rw [Lib.cell_of_heap G0.out]; rfl
      have Z0 := Lib.hid z0
      have Z1 := Lib.hid z1
      have Z2 := Lib.hid z2
      clear z0 z1 z2 a0 a1 a2 a3 a4 ht
      go_loopw [4] (fun x4 wr => ∃ (a : Nat) (z : Int), a ≤ 3 ∧ z = (a : Int) ∧ x4 = .int .i64 z ∧ okS q a ∧ Below w1.heap.size w1 wr) (fun x4 _ => 3 - (intOf x4).toNat)
      case atStart => exact ⟨0, 0, by omega, rfl, rfl, ⟨fun h => by omega, fun h => by omega, fun h => by omega⟩, Below.refl _ _⟩
      case round =>
        obtain ⟨a, z, ha, hz, rfl, hok, hbel⟩ := hrel
        have Hok := Lib.hid hok
        have Hbel := Lib.hid hbel
        rcases (show a = 0 ∨ a = 1 ∨ a = 2 ∨ a = 3 by omega) with rfl | rfl | rfl | rfl
        · obtain rfl : z = 0 := by omega
          have Hnx := Lib.hid (fun h => okS_step q 0 (by omega) Hok.out h)
          have Hno := Lib.hid (fun h => okS_no q 0 (by omega) h)
          rw [show curK q 0 = q.must from rfl] at Hnx Hno
          have zc := cell_call hbel Z0.out
          clear hz hok hbel
          by_cases hlong : 1200 < q.must.length
          · have hli : 1200 < (q.must.length : Int) := by omega
            have Hn0 := Lib.hid (Hno.out (shortR_long _ hlong))
            go_wp2
            go_ret
            exact ⟨by rw [Hn0.out]; rfl, step_call Hb0.out Hbel.out⟩
          · have hli : ¬ 1200 < (q.must.length : Int) := by omega
            have Hrok := Lib.hid (shortR_ok q.must hlong)
            clear hlong
            go_wp2
            clear zc
            go_loopw [5] (fun x5 wr => ∃ b : Nat, b ≤ q.must.length ∧ x5 = .int .i64 b ∧ (q.must.take b).all shortB = true ∧ Below w1.heap.size w1 wr) (fun x5 _ => q.must.length - (intOf x5).toNat)
            case atStart => exact ⟨0, by omega, rfl, rfl, Hbel.out⟩
            case round =>
              obtain ⟨b, hb, rfl, hal, hbel⟩ := hrel
              have Hal := Lib.hid hal
              have Hbel := Lib.hid hbel
              have zc := cell_call hbel Z0.out
              clear hal
              by_cases hlt : b < q.must.length
              · obtain ⟨bb, off, k, um, us, un, hnk, rfl, hbb, hcc, c0, c1, c2, c3, c4, hv⟩ := Hm1.out b hlt
                have hbw := Hb0.out.trans (hbel.mono Hb0.out.size)
                have c0 := cell_below hbw hbb c0
                have c1 := cell_below hbw hbb c1
                have c2 := cell_below hbw hbb c2
                have c3 := cell_below hbw hbb c3
                have c4 := cell_below hbw hbb c4
                have Hst := Lib.hid (shortT_snoc q.must b hlt)
                have Hbad := Lib.hid (shortR_bad q.must b hlt)
                have hki : (b : Int) < (q.must.length : Int) := by omega
                have Hv := Lib.hid (hv.below (hbw.mono (Nat.le_refl _)))
                clear hbel hv hbw
                generalize q.must[b] = u at *
                have HC := Lib.hid (fun (w' : World) (hb : Below wr.heap.size wr w') => IH.out k (by omega) u _ _ _ w' (Hv.out.below hb))
                unfold qV at HC
                generalize shortB u = mu at *
                cases mu
                · have Hn0 := Lib.hid (Hno.out (Hbad.out rfl))
                  clear Hbad Hno
                  go_wp2_with (go_at_call 5; refine (HC.out _ (by first | exact Below.refl _ _ | exact below_drew _)).mono ?_; rintro e w2 ⟨rfl, hb2⟩)
                  go_ret
                  exact ⟨by rw [Hn0.out]; rfl, step_call Hb0.out (step_call Hbel.out hb2)⟩
                · clear Hbad Hno
                  go_wp2_with (go_at_call 5; refine (HC.out _ (by first | exact Below.refl _ _ | exact below_drew _)).mono ?_; rintro e w2 ⟨rfl, hb2⟩)
                  go_roundw
                  case rel => exact ⟨b + 1, by omega, by go_num, by rw [Hst.out, Hal.out]; rfl, step_call Hbel.out hb2⟩
                  case measure => simp [intOf]; omega
              · obtain rfl : b = q.must.length := by omega
                have Hgo := Lib.hid (Hnx.out (Hrok.out Hal.out))
                clear Hno hbel
                go_wp2
                go_roundw
                case rel => exact ⟨0 + 1, _, by omega, rfl, by go_num, Hgo.out, Hbel.out⟩
                case measure => simp [intOf]
        · obtain rfl : z = 1 := by omega
          have Hnx := Lib.hid (fun h => okS_step q 1 (by omega) Hok.out h)
          have Hno := Lib.hid (fun h => okS_no q 1 (by omega) h)
          rw [show curK q 1 = q.should from rfl] at Hnx Hno
          have zc := cell_call hbel Z1.out
          clear hz hok hbel
          by_cases hlong : 1200 < q.should.length
          · have hli : 1200 < (q.should.length : Int) := by omega
            have Hn0 := Lib.hid (Hno.out (shortR_long _ hlong))
            go_wp2
            go_ret
            exact ⟨by rw [Hn0.out]; rfl, step_call Hb0.out Hbel.out⟩
          · have hli : ¬ 1200 < (q.should.length : Int) := by omega
            have Hrok := Lib.hid (shortR_ok q.should hlong)
            clear hlong
            go_wp2
            clear zc
            go_loopw [5] (fun x5 wr => ∃ b : Nat, b ≤ q.should.length ∧ x5 = .int .i64 b ∧ (q.should.take b).all shortB = true ∧ Below w1.heap.size w1 wr) (fun x5 _ => q.should.length - (intOf x5).toNat)
            case atStart => exact ⟨0, by omega, rfl, rfl, Hbel.out⟩
            case round =>
              obtain ⟨b, hb, rfl, hal, hbel⟩ := hrel
              have Hal := Lib.hid hal
              have Hbel := Lib.hid hbel
              have zc := cell_call hbel Z1.out
              clear hal
              by_cases hlt : b < q.should.length
              · obtain ⟨bb, off, k, um, us, un, hnk, rfl, hbb, hcc, c0, c1, c2, c3, c4, hv⟩ := Hs1.out b hlt
                have hbw := Hb0.out.trans (hbel.mono Hb0.out.size)
                have c0 := cell_below hbw hbb c0
                have c1 := cell_below hbw hbb c1
                have c2 := cell_below hbw hbb c2
                have c3 := cell_below hbw hbb c3
                have c4 := cell_below hbw hbb c4
                have Hst := Lib.hid (shortT_snoc q.should b hlt)
                have Hbad := Lib.hid (shortR_bad q.should b hlt)
                have hki : (b : Int) < (q.should.length : Int) := by omega
                have Hv := Lib.hid (hv.below (hbw.mono (Nat.le_refl _)))
                clear hbel hv hbw
                generalize q.should[b] = u at *
                have HC := Lib.hid (fun (w' : World) (hb : Below wr.heap.size wr w') => IH.out k (by omega) u _ _ _ w' (Hv.out.below hb))
                unfold qV at HC
                generalize shortB u = mu at *
                cases mu
                · have Hn0 := Lib.hid (Hno.out (Hbad.out rfl))
                  clear Hbad Hno
                  go_wp2_with (go_at_call 5; refine (HC.out _ (by first | exact Below.refl _ _ | exact below_drew _)).mono ?_; rintro e w2 ⟨rfl, hb2⟩)
                  go_ret
                  exact ⟨by rw [Hn0.out]; rfl, step_call Hb0.out (step_call Hbel.out hb2)⟩
                · clear Hbad Hno
                  go_wp2_with (go_at_call 5; refine (HC.out _ (by first | exact Below.refl _ _ | exact below_drew _)).mono ?_; rintro e w2 ⟨rfl, hb2⟩)
                  go_roundw
                  case rel => exact ⟨b + 1, by omega, by go_num, by rw [Hst.out, Hal.out]; rfl, step_call Hbel.out hb2⟩
                  case measure => simp [intOf]; omega
              · obtain rfl : b = q.should.length := by omega
                have Hgo := Lib.hid (Hnx.out (Hrok.out Hal.out))
                clear Hno hbel
                go_wp2
                go_roundw
                case rel => exact ⟨1 + 1, _, by omega, rfl, by go_num, Hgo.out, Hbel.out⟩
                case measure => simp [intOf]
        · obtain rfl : z = 2 := by omega
          have Hnx := Lib.hid (fun h => okS_step q 2 (by omega) Hok.out h)
          have Hno := Lib.hid (fun h => okS_no q 2 (by omega) h)
          rw [show curK q 2 = q.nots from rfl] at Hnx Hno
          have zc := cell_call hbel Z2.out
          clear hz hok hbel
          by_cases hlong : 1200 < q.nots.length
          · have hli : 1200 < (q.nots.length : Int) := by omega
            have Hn0 := Lib.hid (Hno.out (shortR_long _ hlong))
            go_wp2
            go_ret
            exact ⟨by rw [Hn0.out]; rfl, step_call Hb0.out Hbel.out⟩
          · have hli : ¬ 1200 < (q.nots.length : Int) := by omega
            have Hrok := Lib.hid (shortR_ok q.nots hlong)
            clear hlong
            go_wp2
            clear zc
            go_loopw [5] (fun x5 wr => ∃ b : Nat, b ≤ q.nots.length ∧ x5 = .int .i64 b ∧ (q.nots.take b).all shortB = true ∧ Below w1.heap.size w1 wr) (fun x5 _ => q.nots.length - (intOf x5).toNat)
            case atStart => exact ⟨0, by omega, rfl, rfl, Hbel.out⟩
            case round =>
              obtain ⟨b, hb, rfl, hal, hbel⟩ := hrel
              have Hal := Lib.hid hal
              have Hbel := Lib.hid hbel
              have zc := cell_call hbel Z2.out
              clear hal
              by_cases hlt : b < q.nots.length
              · obtain ⟨bb, off, k, um, us, un, hnk, rfl, hbb, hcc, c0, c1, c2, c3, c4, hv⟩ := Hn1.out b hlt
                have hbw := Hb0.out.trans (hbel.mono Hb0.out.size)
                have c0 := cell_below hbw hbb c0
                have c1 := cell_below hbw hbb c1
                have c2 := cell_below hbw hbb c2
                have c3 := cell_below hbw hbb c3
                have c4 := cell_below hbw hbb c4
                have Hst := Lib.hid (shortT_snoc q.nots b hlt)
                have Hbad := Lib.hid (shortR_bad q.nots b hlt)
                have hki : (b : Int) < (q.nots.length : Int) := by omega
                have Hv := Lib.hid (hv.below (hbw.mono (Nat.le_refl _)))
                clear hbel hv hbw
                generalize q.nots[b] = u at *
                have HC := Lib.hid (fun (w' : World) (hb : Below wr.heap.size wr w') => IH.out k (by omega) u _ _ _ w' (Hv.out.below hb))
                unfold qV at HC
                generalize shortB u = mu at *
                cases mu
                · have Hn0 := Lib.hid (Hno.out (Hbad.out rfl))
                  clear Hbad Hno
                  go_wp2_with (go_at_call 5; refine (HC.out _ (by first | exact Below.refl _ _ | exact below_drew _)).mono ?_; rintro e w2 ⟨rfl, hb2⟩)
                  go_ret
                  exact ⟨by rw [Hn0.out]; rfl, step_call Hb0.out (step_call Hbel.out hb2)⟩
                · clear Hbad Hno
                  go_wp2_with (go_at_call 5; refine (HC.out _ (by first | exact Below.refl _ _ | exact below_drew _)).mono ?_; rintro e w2 ⟨rfl, hb2⟩)
                  go_roundw
                  case rel => exact ⟨b + 1, by omega, by go_num, by rw [Hst.out, Hal.out]; rfl, step_call Hbel.out hb2⟩
                  case measure => simp [intOf]; omega
              · obtain rfl : b = q.nots.length := by omega
                have Hgo := Lib.hid (Hnx.out (Hrok.out Hal.out))
                clear Hno hbel
                go_wp2
                go_roundw
                case rel => exact ⟨2 + 1, _, by omega, rfl, by go_num, Hgo.out, Hbel.out⟩
                case measure => simp [intOf]
        · obtain rfl : z = 3 := by omega
          have Hfin := Lib.hid (okS_end q Hok.out Ht.out)
          clear hz hok hbel
          go_wp2
          go_ret
          exact ⟨by rw [Hfin.out]; rfl, step_call Hb0.out Hbel.out⟩
    · have hti : 1000 < (q.text.length : Int) := by omega
      have Hn0 : Hid (shortB q = false) := Lib.hid (by rw [shortB_eq, decide_eq_false ht]; rfl)
      show Calls Tryz.prog 5 #[.agg #[.int .i64 q.kind, .string (B q.text), .slice om q.must.length cm, .slice os q.should.length cs, .slice on q.nots.length cn]] w _
      clear ht
      go_enter Tryz.func5, Tryz.ntmps5
      go_wp2
      go_ret
      exact ⟨by rw [Hn0.out]; rfl, B0.out⟩
end Go.Proofs.YtlfhgmclnapmjaaGreatDoor
namespace Go.Proofs.YtlfhgmclnapmjaaGreatDoor
open Go.RowKit Go.Utf Go.Qry
attribute [local go_sem] Oper.semAt_some

def smallQ (q : Qy) : Bool := decide ((sizeN q).1 ≤ 300) && shortB q
theorem smallQ_cnt (q : Qy) (h : smallQ q = true) : cnt q ≤ 300 ∧ shortB q = true := by
  unfold smallQ at h
  rw [Bool.and_eq_true, decide_eq_true_eq] at h
  refine ⟨?_, h.2⟩
  have h1 := h.1
  unfold sizeN at h1
  split at h1
  · simp at h1
  · exact h1
end Go.Proofs.YtlfhgmclnapmjaaGreatDoor
