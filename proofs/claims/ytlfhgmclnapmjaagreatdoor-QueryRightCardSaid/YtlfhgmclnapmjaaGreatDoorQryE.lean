/- Chapter 17: codexref10.Valid, query.node. Conditions: as the calls'. Chapter 17: codexref17.node. Conditions: as the calls'. Chapter 17: codexref17.nodes. Conditions: as the calls'. Chapter 17: query.nodes, with slices.ContainsFunc and IndexFunc over a node's lists. Conditions: as the calls'. Chapter 17: query.Right, codexref17.Right. Conditions: as the calls'. -/
import Derived.Test.YtlfhgmclnapmjaaGreatDoorQryA
import Derived.Test.YtlfhgmclnapmjaaGreatDoorUtfK
namespace Go.Proofs.YtlfhgmclnapmjaaGreatDoor
open Go.RowKit Go.Utf Go.Qry Go.Lib
attribute [local go_sem] Oper.semAt_some

set_option maxRecDepth 100000 in
set_option maxHeartbeats 1600000 in
theorem ref10_ValidL (s : ByteArray) (hs : s.size ≤ 9223372036854775807) (w : World) :
    Calls Tryz.prog 65 #[.string s] w fun e w' => e = .returned (.bool (validL (L s))) ∧ Below w.heap.size w w' := by
  go_enter Tryz.func65, Tryz.ntmps65
  go_wp2
  go_loopw [0] (fun x0 wr => ∃ t : ByteArray, x0 = .string t ∧ t.size ≤ s.size ∧ validL (L t) = validL (L s) ∧ Below w.heap.size w wr) (fun x0 _ => match x0 with | .string t => t.size | _ => 0)
  case atStart => exact ⟨s, rfl, Nat.le_refl _, rfl, Below.refl _ _⟩
  case round =>
    obtain ⟨t, rfl, ht, hv, hb⟩ := hrel
    have Hv := Lib.hid hv
    have Hb := Lib.hid hb
    clear hv
    by_cases h0 : t.size = 0
    · have hz : (t.size : Int) ≤ 0 := by omega
      have Hn : Hid (L t = []) := Lib.hid (List.eq_nil_of_length_eq_zero (by rw [length_L]; exact h0))
      go_wp2
      go_ret
      exact ⟨ret_bool (by rw [← Hv.out, Hn.out]; unfold validL; rw [chunks_nil]; rfl), Hb.out⟩
    · have hz : (0 : Int) < (t.size : Int) := by omega
      have hne : L t ≠ [] := by
        intro e
        have := congrArg List.length e
        rw [length_L, List.length_nil] at this; omega
      have Hc := Lib.hid (validL_cons hne)
      have hpos := readL_pos hne
      have hle := readL_le hne
      rw [length_L] at hle
      have HR := Lib.hid (ref10_Rune t (by omega) wr)
      unfold ReadV at HR
      obtain ⟨x, hx⟩ : ∃ x, readL (L t) = x := ⟨_, rfl⟩
      rw [hx] at HR Hc hpos hle
      obtain ⟨r, n⟩ := x
      simp only at HR Hc hpos hle
      have hn : (n : Int) ≤ (t.size : Int) := by omega
      clear hx hne h0
      by_cases hr : r < 0
      · go_wp2_with (go_at_call 49; refine HR.out.mono ?_; rintro e w1 ⟨rfl, hb1⟩)
        go_ret
        exact ⟨ret_bool (by rw [← Hv.out, Hc.out, decide_eq_false (by omega)]; rfl), step_call Hb.out hb1⟩
      · have hr' : 0 ≤ r := by omega
        have Hr := Lib.hid hr'
        go_wp2_with (go_at_call 49; refine HR.out.mono ?_; rintro e w1 ⟨rfl, hb1⟩)
        go_roundw
        case rel => exact ⟨_, rfl, by simp; omega, by rw [← Hv.out, Hc.out, decide_eq_true Hr.out, extract_to_end, L_B]; rfl, step_call Hb.out hb1⟩
        case measure => simp; omega
set_option maxRecDepth 100000 in
set_option maxHeartbeats 1600000 in
theorem query_node (n : Nat) (q : Qy) (vm vs vn : Value) (w : World) (h : QVal w n q vm vs vn) (hc : cnt q ≤ 100000) (hT : Tabs w) : Calls Tryz.prog 44 #[qV q vm vs vn] w fun e w' => e = .returned (.bool (nodeB q)) ∧ Below w.heap.size w w' := by
  have HV := Lib.hid (fun (w' : World) (hb : Below w.heap.size w w') => utf_Valid (B q.text) (by rw [size_B]; exact h.fit.2.2) w' (hT.below hb))
  obtain ⟨om, cm, rfl, lm, xm⟩ := h.must.form
  obtain ⟨os, cs, rfl, ls, xs⟩ := h.should.form
  obtain ⟨on, cn, rfl, ln, xn⟩ := h.nots.form
  have hkl : q.must.length + (q.should.length + q.nots.length) ≤ 100000 := by
    have h1 := length_cntL q.kids
    have h2 := cnt_kids q
    rw [Qy.kids, List.length_append, List.length_append] at h1
    rw [Qy.kids] at h2
    omega
  have HN : Hid (nodeB q = if q.kind = 2 ∨ q.kind = 3 ∨ q.kind = 4 then decide (q.must.length + q.should.length + q.nots.length = 0) && (decide (q.text.length ≤ 200) && validL q.text) else if q.kind = 1 then decide (q.must.length + q.should.length + q.nots.length = 0) && decide (q.text = []) else if q.kind = 5 then decide (q.text = []) else false) := Lib.hid rfl
  have hf1 := h.fit.1
  have hf2 := h.fit.2.1
  have hf3 := h.fit.2.2
  have Hb0 := Lib.hid (step_new (Below.refl w.heap.size w) (.cells #[.int .i64 q.kind, .string (B q.text), .slice om q.must.length cm, .slice os q.should.length cs, .slice on q.nots.length cn] 24))
  have hbs : (B q.text).size = q.text.length := size_B _
  have hem : (B q.text).toList.isEmpty = decide (q.text = []) := by rw [toList_B]; cases q.text <;> simp
  clear h hc xm xs xn
  show Calls Tryz.prog 44 #[.agg #[.int .i64 q.kind, .string (B q.text), .slice om q.must.length cm, .slice os q.should.length cs, .slice on q.nots.length cn]] w _
  generalize nodeB q = N at *
  generalize q.kind = K at *
  generalize q.must.length = nm at *
  generalize q.should.length = ns at *
  generalize q.nots.length = nn at *
  generalize q.text = t at *
  have hsum : ((nm : Int) + (ns : Int) + (nn : Int) == 0) = decide (nm + ns + nn = 0) := by
    rw [Bool.eq_iff_iff, beq_iff_eq, decide_eq_true_eq]; omega
  rcases (show K = 1 ∨ K = 2 ∨ K = 3 ∨ K = 4 ∨ K = 5 ∨ (K ≠ 1 ∧ K ≠ 2 ∧ K ≠ 3 ∧ K ≠ 4 ∧ K ≠ 5) by omega) with rfl | rfl | rfl | rfl | rfl | ⟨k1, k2, k3, k4, k5⟩
  · rw [if_neg (by omega), if_pos rfl] at HN
    by_cases h0 : nm + ns + nn = 0
    · rw [decide_eq_true h0, Bool.true_and] at HN
      rw [decide_eq_true h0] at hsum
      clear h0
      go_enter Tryz.func44, Tryz.ntmps44
      go_wp2
      go_ret
      exact ⟨by rw [HN.out]; first | rfl | (rw [← hem]; rfl), Hb0.out⟩
    · rw [decide_eq_false h0, Bool.false_and] at HN
      rw [decide_eq_false h0] at hsum
      clear h0
      go_enter Tryz.func44, Tryz.ntmps44
      go_wp2
      go_ret
      exact ⟨by rw [HN.out]; first | rfl | (rw [← hem]; rfl), Hb0.out⟩
  · rw [if_pos (by omega)] at HN
    by_cases h0 : nm + ns + nn = 0 <;> by_cases h2 : t.length ≤ 200
    all_goals
      first
      | rw [decide_eq_true h0, decide_eq_true h2, Bool.true_and, Bool.true_and] at HN
      | rw [decide_eq_true h0, decide_eq_false h2, Bool.false_and, Bool.true_and] at HN
      | rw [decide_eq_false h0, Bool.false_and] at HN
      have h2i : (t.length : Int) ≤ 200 ∨ ¬ (t.length : Int) ≤ 200 := by omega
      first
      | rw [decide_eq_true h0] at hsum
      | rw [decide_eq_false h0] at hsum
      rcases h2i with h2i | h2i
      all_goals
        first
        | (exfalso; omega)
        | (clear h0 h2
           go_enter Tryz.func44, Tryz.ntmps44
           go_wp2_with (go_at_call 66; refine (HV.out _ Hb0.out).mono ?_; rintro e w1 ⟨rfl, hb1⟩)
           go_ret
           exact ⟨by rw [HN.out]; rfl, by first | exact Hb0.out | exact step_call Hb0.out hb1⟩)
  · rw [if_pos (by omega)] at HN
    by_cases h0 : nm + ns + nn = 0 <;> by_cases h2 : t.length ≤ 200
    all_goals
      first
      | rw [decide_eq_true h0, decide_eq_true h2, Bool.true_and, Bool.true_and] at HN
      | rw [decide_eq_true h0, decide_eq_false h2, Bool.false_and, Bool.true_and] at HN
      | rw [decide_eq_false h0, Bool.false_and] at HN
      have h2i : (t.length : Int) ≤ 200 ∨ ¬ (t.length : Int) ≤ 200 := by omega
      first
      | rw [decide_eq_true h0] at hsum
      | rw [decide_eq_false h0] at hsum
      rcases h2i with h2i | h2i
      all_goals
        first
        | (exfalso; omega)
        | (clear h0 h2
           go_enter Tryz.func44, Tryz.ntmps44
           go_wp2_with (go_at_call 66; refine (HV.out _ Hb0.out).mono ?_; rintro e w1 ⟨rfl, hb1⟩)
           go_ret
           exact ⟨by rw [HN.out]; rfl, by first | exact Hb0.out | exact step_call Hb0.out hb1⟩)
  · rw [if_pos (by omega)] at HN
    by_cases h0 : nm + ns + nn = 0 <;> by_cases h2 : t.length ≤ 200
    all_goals
      first
      | rw [decide_eq_true h0, decide_eq_true h2, Bool.true_and, Bool.true_and] at HN
      | rw [decide_eq_true h0, decide_eq_false h2, Bool.false_and, Bool.true_and] at HN
      | rw [decide_eq_false h0, Bool.false_and] at HN
      have h2i : (t.length : Int) ≤ 200 ∨ ¬ (t.length : Int) ≤ 200 := by omega
      first
      | rw [decide_eq_true h0] at hsum
      | rw [decide_eq_false h0] at hsum
      rcases h2i with h2i | h2i
      all_goals
        first
        | (exfalso; omega)
        | (clear h0 h2
           go_enter Tryz.func44, Tryz.ntmps44
           go_wp2_with (go_at_call 66; refine (HV.out _ Hb0.out).mono ?_; rintro e w1 ⟨rfl, hb1⟩)
           go_ret
           exact ⟨by rw [HN.out]; rfl, by first | exact Hb0.out | exact step_call Hb0.out hb1⟩)
  · rw [if_neg (by omega), if_neg (by omega), if_pos rfl] at HN
    go_enter Tryz.func44, Tryz.ntmps44
    go_wp2
    go_ret
    exact ⟨by rw [HN.out]; first | rfl | (rw [← hem]; rfl), Hb0.out⟩
  · rw [if_neg (by omega), if_neg (by omega), if_neg (by omega)] at HN
    have q1 : (K == 1) = false := by rw [beq_eq_false_iff_ne]; omega
    have q2 : (K == 2) = false := by rw [beq_eq_false_iff_ne]; omega
    have q3 : (K == 3) = false := by rw [beq_eq_false_iff_ne]; omega
    have q4 : (K == 4) = false := by rw [beq_eq_false_iff_ne]; omega
    have q5 : (K == 5) = false := by rw [beq_eq_false_iff_ne]; omega
    clear k1 k2 k3 k4 k5
    go_enter Tryz.func44, Tryz.ntmps44
    go_wp2
    go_ret
    exact ⟨by rw [HN.out]; rfl, Hb0.out⟩
end Go.Proofs.YtlfhgmclnapmjaaGreatDoor
namespace Go.Proofs.YtlfhgmclnapmjaaGreatDoor
open Go.RowKit Go.Utf Go.Qry Go.Lib
attribute [local go_sem] Oper.semAt_some

set_option maxRecDepth 100000 in
set_option maxHeartbeats 1600000 in
theorem ref17_node (n : Nat) (q : Qy) (vm vs vn : Value) (w : World) (h : QVal w n q vm vs vn) (hc : cnt q ≤ 100000) : Calls Tryz.prog 42 #[qV q vm vs vn] w fun e w' => e = .returned (.bool (nodeB q)) ∧ Below w.heap.size w w' := by
  have HV := Lib.hid (fun (w' : World) (hb : Below w.heap.size w w') => (ref10_ValidL (B q.text) (by rw [size_B]; exact h.fit.2.2) w' : Calls Tryz.prog 65 #[.string (B q.text)] w' fun e w'' => e = .returned (.bool (validL q.text)) ∧ Below w'.heap.size w' w''))
  obtain ⟨om, cm, rfl, lm, xm⟩ := h.must.form
  obtain ⟨os, cs, rfl, ls, xs⟩ := h.should.form
  obtain ⟨on, cn, rfl, ln, xn⟩ := h.nots.form
  have hkl : q.must.length + (q.should.length + q.nots.length) ≤ 100000 := by
    have h1 := length_cntL q.kids
    have h2 := cnt_kids q
    rw [Qy.kids, List.length_append, List.length_append] at h1
    rw [Qy.kids] at h2
    omega
  have HN : Hid (nodeB q = if q.kind = 2 ∨ q.kind = 3 ∨ q.kind = 4 then decide (q.must.length + q.should.length + q.nots.length = 0) && (decide (q.text.length ≤ 200) && validL q.text) else if q.kind = 1 then decide (q.must.length + q.should.length + q.nots.length = 0) && decide (q.text = []) else if q.kind = 5 then decide (q.text = []) else false) := Lib.hid rfl
  have hf1 := h.fit.1
  have hf2 := h.fit.2.1
  have hf3 := h.fit.2.2
  have Hb0 := Lib.hid (step_new (Below.refl w.heap.size w) (.cells #[.int .i64 q.kind, .string (B q.text), .slice om q.must.length cm, .slice os q.should.length cs, .slice on q.nots.length cn] 24))
  have hbs : (B q.text).size = q.text.length := size_B _
  have hem : (B q.text).toList.isEmpty = decide (q.text = []) := by rw [toList_B]; cases q.text <;> simp
  clear h hc xm xs xn
  show Calls Tryz.prog 42 #[.agg #[.int .i64 q.kind, .string (B q.text), .slice om q.must.length cm, .slice os q.should.length cs, .slice on q.nots.length cn]] w _
  generalize nodeB q = N at *
  generalize q.kind = K at *
  generalize q.must.length = nm at *
  generalize q.should.length = ns at *
  generalize q.nots.length = nn at *
  simp only [L_B] at HV
  generalize q.text = t at *
  have hsum : ((nm : Int) + (ns : Int) + (nn : Int) == 0) = decide (nm + ns + nn = 0) := by
    rw [Bool.eq_iff_iff, beq_iff_eq, decide_eq_true_eq]; omega
  rcases (show K = 1 ∨ K = 2 ∨ K = 3 ∨ K = 4 ∨ K = 5 ∨ (K ≠ 1 ∧ K ≠ 2 ∧ K ≠ 3 ∧ K ≠ 4 ∧ K ≠ 5) by omega) with rfl | rfl | rfl | rfl | rfl | ⟨k1, k2, k3, k4, k5⟩
  · rw [if_neg (by omega), if_pos rfl] at HN
    generalize decide (t = []) = te at *
    by_cases h0 : nm + ns + nn = 0
    · rw [decide_eq_true h0, Bool.true_and] at HN
      rw [decide_eq_true h0] at hsum
      clear h0
      cases te
      all_goals
        go_enter Tryz.func42, Tryz.ntmps42
        go_wp2
        go_ret
        exact ⟨by rw [HN.out]; rfl, Hb0.out⟩
    · rw [decide_eq_false h0, Bool.false_and] at HN
      rw [decide_eq_false h0] at hsum
      clear h0
      cases te
      all_goals
        go_enter Tryz.func42, Tryz.ntmps42
        go_wp2
        go_ret
        exact ⟨by rw [HN.out]; rfl, Hb0.out⟩
  · rw [if_pos (by omega)] at HN
    by_cases h0 : nm + ns + nn = 0 <;> by_cases h2 : t.length ≤ 200
    all_goals
      first
      | rw [decide_eq_true h0, decide_eq_true h2, Bool.true_and, Bool.true_and] at HN
      | rw [decide_eq_true h0, decide_eq_false h2, Bool.false_and, Bool.true_and] at HN
      | rw [decide_eq_false h0, Bool.false_and] at HN
      have h2i : (t.length : Int) ≤ 200 ∨ ¬ (t.length : Int) ≤ 200 := by omega
      first
      | rw [decide_eq_true h0] at hsum
      | rw [decide_eq_false h0] at hsum
      generalize validL t = vb at *
      rcases h2i with h2i | h2i <;> cases vb
      all_goals
        first
        | (exfalso; omega)
        | (clear h0 h2
           go_enter Tryz.func42, Tryz.ntmps42
           go_wp2_with (go_at_call 65; refine (HV.out _ Hb0.out).mono ?_; rintro e w1 ⟨rfl, hb1⟩; have c1 := cell_call hb1 (show (w.alloc (.cells #[.int .i64 2, .string (B t), .slice om nm cm, .slice os ns cs, .slice on nn cn] 24)).cell? ⟨w.heap.size, 1, none⟩ = some (.string (B t)) by rw [Lib.cell_of_heap (heap_alloc_new w _)]; rfl))
           go_ret
           exact ⟨by rw [HN.out]; rfl, by first | exact Hb0.out | exact step_call Hb0.out hb1⟩)
  · rw [if_pos (by omega)] at HN
    by_cases h0 : nm + ns + nn = 0 <;> by_cases h2 : t.length ≤ 200
    all_goals
      first
      | rw [decide_eq_true h0, decide_eq_true h2, Bool.true_and, Bool.true_and] at HN
      | rw [decide_eq_true h0, decide_eq_false h2, Bool.false_and, Bool.true_and] at HN
      | rw [decide_eq_false h0, Bool.false_and] at HN
      have h2i : (t.length : Int) ≤ 200 ∨ ¬ (t.length : Int) ≤ 200 := by omega
      first
      | rw [decide_eq_true h0] at hsum
      | rw [decide_eq_false h0] at hsum
      generalize validL t = vb at *
      rcases h2i with h2i | h2i <;> cases vb
      all_goals
        first
        | (exfalso; omega)
        | (clear h0 h2
           go_enter Tryz.func42, Tryz.ntmps42
           go_wp2_with (go_at_call 65; refine (HV.out _ Hb0.out).mono ?_; rintro e w1 ⟨rfl, hb1⟩; have c1 := cell_call hb1 (show (w.alloc (.cells #[.int .i64 3, .string (B t), .slice om nm cm, .slice os ns cs, .slice on nn cn] 24)).cell? ⟨w.heap.size, 1, none⟩ = some (.string (B t)) by rw [Lib.cell_of_heap (heap_alloc_new w _)]; rfl))
           go_ret
           exact ⟨by rw [HN.out]; rfl, by first | exact Hb0.out | exact step_call Hb0.out hb1⟩)
  · rw [if_pos (by omega)] at HN
    by_cases h0 : nm + ns + nn = 0 <;> by_cases h2 : t.length ≤ 200
    all_goals
      first
      | rw [decide_eq_true h0, decide_eq_true h2, Bool.true_and, Bool.true_and] at HN
      | rw [decide_eq_true h0, decide_eq_false h2, Bool.false_and, Bool.true_and] at HN
      | rw [decide_eq_false h0, Bool.false_and] at HN
      have h2i : (t.length : Int) ≤ 200 ∨ ¬ (t.length : Int) ≤ 200 := by omega
      first
      | rw [decide_eq_true h0] at hsum
      | rw [decide_eq_false h0] at hsum
      generalize validL t = vb at *
      rcases h2i with h2i | h2i <;> cases vb
      all_goals
        first
        | (exfalso; omega)
        | (clear h0 h2
           go_enter Tryz.func42, Tryz.ntmps42
           go_wp2_with (go_at_call 65; refine (HV.out _ Hb0.out).mono ?_; rintro e w1 ⟨rfl, hb1⟩; have c1 := cell_call hb1 (show (w.alloc (.cells #[.int .i64 4, .string (B t), .slice om nm cm, .slice os ns cs, .slice on nn cn] 24)).cell? ⟨w.heap.size, 1, none⟩ = some (.string (B t)) by rw [Lib.cell_of_heap (heap_alloc_new w _)]; rfl))
           go_ret
           exact ⟨by rw [HN.out]; rfl, by first | exact Hb0.out | exact step_call Hb0.out hb1⟩)
  · rw [if_neg (by omega), if_neg (by omega), if_pos rfl] at HN
    go_enter Tryz.func42, Tryz.ntmps42
    go_wp2
    go_ret
    exact ⟨by rw [HN.out]; first | rfl | (rw [← hem]; rfl), Hb0.out⟩
  · rw [if_neg (by omega), if_neg (by omega), if_neg (by omega)] at HN
    have q1 : (K == 1) = false := by rw [beq_eq_false_iff_ne]; omega
    have q2 : (K == 2) = false := by rw [beq_eq_false_iff_ne]; omega
    have q3 : (K == 3) = false := by rw [beq_eq_false_iff_ne]; omega
    have q4 : (K == 4) = false := by rw [beq_eq_false_iff_ne]; omega
    have q5 : (K == 5) = false := by rw [beq_eq_false_iff_ne]; omega
    clear k1 k2 k3 k4 k5
    go_enter Tryz.func42, Tryz.ntmps42
    go_wp2
    go_ret
    exact ⟨by rw [HN.out]; rfl, Hb0.out⟩
end Go.Proofs.YtlfhgmclnapmjaaGreatDoor
namespace Go.Proofs.YtlfhgmclnapmjaaGreatDoor
open Go.RowKit Go.Utf Go.Qry
attribute [local go_sem] Oper.semAt_some

def okAt (q : Qy) (b : Nat) : Bool := nodeB q && (q.kids.take b).all nodesB
theorem okAt_end (q : Qy) : okAt q q.kids.length = nodesB q := by
  unfold okAt
  rw [List.take_of_length_le (Nat.le_refl _), nodesB_kids, Bool.and_comm]
theorem okAt_snoc (q : Qy) (b : Nat) (h : b < q.kids.length) : okAt q (b + 1) = (okAt q b && nodesB q.kids[b]) := by
  unfold okAt
  rw [List.take_add_one, List.getElem?_eq_getElem h, List.all_append, Bool.and_assoc]
  simp
theorem okAt_no (q : Qy) (b : Nat) (h : okAt q b = false) : nodesB q = false := by
  rw [nodesB_kids, ← List.take_append_drop b q.kids, List.all_append]
  unfold okAt at h
  cases hn : nodeB q
  · simp
  · rw [hn, Bool.true_and] at h
    rw [h]; simp
set_option maxRecDepth 100000 in
set_option maxHeartbeats 1600000 in
theorem ref17_nodes (n : Nat) : ∀ (q : Qy) (vm vs vn : Value) (w : World), QVal w n q vm vs vn → cnt q ≤ 100000 → Calls Tryz.prog 23 #[qV q vm vs vn] w fun e w' => e = .returned (.bool (nodesB q)) ∧ Below w.heap.size w w' := by
  induction n using Nat.strongRecOn with
  | _ n ih =>
    intro q vm vs vn w h hc
    have IH := Lib.hid ih
    have hN := fun (w' : World) (hb : Below w.heap.size w w') => ref17_node n q vm vs vn w' (h.below hb) hc
    have hK := fun (w' : World) (hb : Below w.heap.size w w') => ref17_kids n q vm vs vn w' (h.below hb) hc
    have Hend := Lib.hid (okAt_end q)
    have H0 : Hid (okAt q 0 = nodeB q) := Lib.hid (by unfold okAt; rw [List.take_zero, List.all_nil, Bool.and_true])
    have Hkd := Lib.hid (show ∀ k ∈ q.kids, cnt k ≤ 100000 from fun k hk => by
      have h1 := cnt_mem hk
      have h3 := cnt_kids q
      omega)
    have hkl : q.kids.length ≤ 100000 := by
      have h1 := length_cntL q.kids
      have h2 := cnt_kids q
      omega
    obtain ⟨b0, b1, b2, b3, b4⟩ := boxedQ w q vm vs vn 24
    have b0 := Lib.hid b0
    have b1 := Lib.hid b1
    have b2 := Lib.hid b2
    have b3 := Lib.hid b3
    have b4 := Lib.hid b4
    unfold qV at hK hN
    have HK := Lib.hid hK
    have HN := Lib.hid hN
    clear ih hK hN
    show Calls Tryz.prog 23 #[.agg #[.int .i64 q.kind, .string (B q.text), vm, vs, vn]] w _
    clear h hc
    go_enter Tryz.func23, Tryz.ntmps23
    go_wp2_with fail
    refine (HN.out _ (step_new (Below.refl _ _) _)).mono ?_
    rintro e w1 ⟨rfl, hb1⟩
    have B1 := Lib.hid (step_call (step_new (Below.refl w.heap.size w) _) hb1)
    have b0 := cell_call hb1 b0.out
    have b1 := cell_call hb1 b1.out
    have b2 := cell_call hb1 b2.out
    have b3 := cell_call hb1 b3.out
    have b4 := cell_call hb1 b4.out
    clear hb1
    go_wp2_with fail
    refine (HK.out _ B1.out).mono ?_
    rintro e w2 ⟨v1, rfl, hq1, hb2⟩
    obtain ⟨oc, cc, rfl, _, hcell⟩ := hq1.form
    have Hcell := Lib.hid hcell
    have HB1 := Lib.hid (step_call B1.out hb2)
    clear hq1 hcell hb2 b0 b1 b2 b3 b4
    go_wp2
    go_loopw [5, 3] (fun x5 x3 wr => ∃ b : Nat, b ≤ q.kids.length ∧ x5 = .int .i64 b ∧ x3 = .bool (okAt q b) ∧ Below w2.heap.size w2 wr) (fun x5 _ _ => q.kids.length - (intOf x5).toNat)
    case atStart => exact ⟨0, by omega, rfl, by rw [H0.out], Below.refl _ _⟩
    case round =>
      obtain ⟨b, hb, rfl, rfl, hbel⟩ := hrel
      have Hbel := Lib.hid hbel
      have Hno := Lib.hid (okAt_no q b)
      by_cases hlt : b < q.kids.length
      · have Hst := Lib.hid (okAt_snoc q b hlt)
        obtain ⟨bb, off, k, um, us, un, hnk, rfl, hbb, hcc, c0, c1, c2, c3, c4, hv⟩ := Hcell.out b hlt
        have c0 := cell_below hbel hbb c0
        have c1 := cell_below hbel hbb c1
        have c2 := cell_below hbel hbb c2
        have c3 := cell_below hbel hbb c3
        have c4 := cell_below hbel hbb c4
        have hki : (b : Int) < (q.kids.length : Int) := by omega
        have hkd := Hkd.out q.kids[b] (List.getElem_mem hlt)
        have hlr := hv.below hbel
        obtain ⟨pm, dm, rfl, _, _⟩ := hv.must.form
        obtain ⟨ps, ds, rfl, _, _⟩ := hv.should.form
        obtain ⟨pn, dn, rfl, _, _⟩ := hv.nots.form
        have Hv := Lib.hid hlr
        clear hbel hv hlr
        generalize q.kids[b] = u at *
        generalize hcb : okAt q (b + 1) = cb1 at *
        have Hcb := Lib.hid hcb
        clear hcb
        generalize okAt q b = cb at *
        cases cb
        · have Hn0 := Lib.hid (Hno.out rfl)
          clear Hno
          go_wp2
          go_ret
          exact ⟨by rw [Hn0.out]; rfl, step_call HB1.out Hbel.out⟩
        · have HC := Lib.hid (fun (w' : World) (hb : Below wr.heap.size wr w') => IH.out k (by omega) u _ _ _ w' (Hv.out.below hb) hkd)
          unfold qV at HC
          generalize nodesB u = mu at *
          go_wp2_with (go_at_call 23; refine (HC.out _ (by first | exact Below.refl _ _ | exact below_drew _ | exact step_new (Below.refl _ _) _)).mono ?_; rintro e w3 ⟨rfl, hb2⟩)
          all_goals
            go_roundw
            case rel => exact ⟨b + 1, by omega, by go_num, by rw [Hcb.out, Hst.out]; rfl, step_call Hbel.out hb2⟩
            case measure => simp [intOf]; omega
      · obtain rfl : b = q.kids.length := by omega
        clear Hno
        generalize okAt q q.kids.length = dz at *
        cases dz
        all_goals
          go_wp2
          go_ret
          exact ⟨by rw [← Hend.out]; rfl, step_call HB1.out Hbel.out⟩
end Go.Proofs.YtlfhgmclnapmjaaGreatDoor
namespace Go.Proofs.YtlfhgmclnapmjaaGreatDoor
open Go.RowKit Go.Utf Go.Qry
attribute [local go_sem] Oper.semAt_some

theorem allTake_snoc (l : List Qy) (b : Nat) (h : b < l.length) : (l.take (b + 1)).all nodesB = ((l.take b).all nodesB && nodesB l[b]) := by
  rw [List.take_add_one, List.getElem?_eq_getElem h, List.all_append]
  simp
theorem all_false_at (l : List Qy) (b : Nat) (h : b < l.length) (hn : nodesB l[b] = false) : l.all nodesB = false := by
  rw [List.all_eq_false]
  exact ⟨l[b], List.getElem_mem h, by rw [hn]; simp⟩
set_option maxRecDepth 100000 in
set_option maxHeartbeats 1600000 in
theorem nodes_not (u : Qy) (vm vs vn : Value) (mu : Bool) (w : World) (h : ∀ w', Below w.heap.size w w' → Calls Tryz.prog 24 #[qV u vm vs vn] w' fun e w'' => e = .returned (.bool mu) ∧ Below w'.heap.size w' w'') :
    Calls Tryz.prog 43 #[qV u vm vs vn] w fun e w' => e = .returned (.bool (!mu)) ∧ Below w.heap.size w w' := by
  have H := Lib.hid h
  obtain ⟨b0, b1, b2, b3, b4⟩ := boxedQ w u vm vs vn 24
  clear h
  unfold qV at H
  show Calls Tryz.prog 43 #[.agg #[.int .i64 u.kind, .string (B u.text), vm, vs, vn]] w _
  go_enter Tryz.func43, Tryz.ntmps43
  go_wp2_with fail
  refine (H.out _ (step_new (Below.refl _ _) _)).mono ?_
  rintro e w1 ⟨rfl, hb1⟩
  have B1 := Lib.hid (step_call (step_new (Below.refl w.heap.size w) _) hb1)
  clear hb1
  cases mu
  all_goals
    go_wp2
    go_ret
    exact ⟨rfl, B1.out⟩
set_option maxRecDepth 100000 in
set_option maxHeartbeats 1600000 in
theorem index_query (n : Nat) (l : List Qy) (oa : Option Addr) (c : Nat) (w : World) (hr : QRow w n (.slice oa l.length c) l) (hc : ∀ k ∈ l, cnt k ≤ 100000) (hT : Tabs w)
    (ih : ∀ m, m < n → ∀ (q : Qy) (vm vs vn : Value) (w : World), QVal w m q vm vs vn → cnt q ≤ 100000 → Tabs w → Calls Tryz.prog 24 #[qV q vm vs vn] w fun e w' => e = .returned (.bool (nodesB q)) ∧ Below w.heap.size w w') :
    Calls Tryz.prog 64 #[.slice oa l.length c, .func (.func 43) #[] #[]] w fun e w' => (∃ z : Int, e = .returned (.int .i64 z) ∧ -1 ≤ z ∧ z ≤ 9223372036854775807 ∧ decide (0 ≤ z) = !(l.all nodesB)) ∧ Below w.heap.size w w' := by
  obtain ⟨oa', c', e, hll, hcell⟩ := hr.form
  simp only [Value.slice.injEq, true_and] at e
  obtain ⟨rfl, rfl⟩ := e
  have Hcell := Lib.hid hcell
  have IH := Lib.hid ih
  have Hc := Lib.hid hc
  have HT := Lib.hid hT
  clear hcell ih hc hr hT
  go_enter Tryz.func64, Tryz.ntmps64
  go_wp2
  go_loopw [8] (fun x8 wr => ∃ b : Nat, b ≤ l.length ∧ (l.take b).all nodesB = true ∧ x8 = .int .i64 b ∧ Below w.heap.size w wr) (fun x8 _ => l.length - (intOf x8).toNat)
  case atStart => exact ⟨0, by omega, rfl, rfl, Below.refl _ _⟩
  case round =>
    obtain ⟨b, hb, hal, rfl, hbel⟩ := hrel
    have Hbel := Lib.hid hbel
    have Hal := Lib.hid hal
    clear hal
    by_cases hlt : b < l.length
    · have Hst := Lib.hid (allTake_snoc l b hlt)
      have Hno := Lib.hid (all_false_at l b hlt)
      obtain ⟨bb, off, k, um, us, un, hnk, rfl, hbb, hcc, c0, c1, c2, c3, c4, hv⟩ := Hcell.out b hlt
      have c0 := cell_below hbel hbb c0
      have c1 := cell_below hbel hbb c1
      have c2 := cell_below hbel hbb c2
      have c3 := cell_below hbel hbb c3
      have c4 := cell_below hbel hbb c4
      have hki : (b : Int) < (l.length : Int) := by omega
      have hkd := Hc.out l[b] (List.getElem_mem hlt)
      have Hv := Lib.hid (hv.below hbel)
      have HTr := Lib.hid (HT.out.below hbel)
      clear hbel hv
      generalize l[b] = u at *
      have HC := Lib.hid (nodes_not u um us un (nodesB u) wr (fun w' hb => IH.out k (by omega) u _ _ _ w' (Hv.out.below hb) hkd (HTr.out.below hb)))
      unfold qV at HC
      generalize nodesB u = mu at *
      cases mu
      · have Hn0 := Lib.hid (Hno.out rfl)
        clear Hno
        go_wp2_with (go_at_call 43; refine HC.out.mono ?_; rintro e w3 ⟨rfl, hb2⟩)
        go_ret
        exact ⟨⟨b, rfl, by omega, by omega, by rw [Hn0.out]; simp⟩, step_call Hbel.out hb2⟩
      · clear Hno
        go_wp2_with (go_at_call 43; refine HC.out.mono ?_; rintro e w3 ⟨rfl, hb2⟩)
        go_roundw
        case rel => exact ⟨b + 1, by omega, by rw [Hst.out, Hal.out]; rfl, by go_num, step_call Hbel.out hb2⟩
        case measure => simp [intOf]; omega
    · obtain rfl : b = l.length := by omega
      have Hal' : Hid (l.all nodesB = true) := Lib.hid (by have := Hal.out; rwa [List.take_of_length_le (Nat.le_refl _)] at this)
      clear Hal
      go_wp2
      go_ret
      exact ⟨⟨-1, rfl, by omega, by omega, by rw [Hal'.out]; rfl⟩, Hbel.out⟩
set_option maxRecDepth 100000 in
set_option maxHeartbeats 1600000 in
theorem contains_query (n : Nat) (l : List Qy) (oa : Option Addr) (c : Nat) (w : World) (hr : QRow w n (.slice oa l.length c) l) (hc : ∀ k ∈ l, cnt k ≤ 100000) (hT : Tabs w)
    (ih : ∀ m, m < n → ∀ (q : Qy) (vm vs vn : Value) (w : World), QVal w m q vm vs vn → cnt q ≤ 100000 → Tabs w → Calls Tryz.prog 24 #[qV q vm vs vn] w fun e w' => e = .returned (.bool (nodesB q)) ∧ Below w.heap.size w w') :
    Calls Tryz.prog 40 #[.slice oa l.length c, .func (.func 43) #[] #[]] w fun e w' => e = .returned (.bool (!(l.all nodesB))) ∧ Below w.heap.size w w' := by
  have H := Lib.hid (index_query n l oa c w hr hc hT ih)
  clear hr hc ih hT
  generalize l.all nodesB = al at *
  go_enter Tryz.func40, Tryz.ntmps40
  go_wp2_with fail
  refine H.out.mono ?_
  rintro e w1 ⟨⟨z, rfl, hz1, hz2, hz⟩, hb1⟩
  by_cases h0 : 0 ≤ z
  · have Hz : Hid ((!al) = true) := Lib.hid (by rw [← hz]; exact decide_eq_true h0)
    clear hz
    go_wp2
    go_ret
    exact ⟨by rw [Hz.out]; first | rfl | simp [h0], hb1⟩
  · have Hz : Hid ((!al) = false) := Lib.hid (by rw [← hz]; exact decide_eq_false h0)
    clear hz
    have h0' : z < 0 := by omega
    go_wp2
    go_ret
    exact ⟨by rw [Hz.out]; first | rfl | simp [h0], hb1⟩
/-- The lists that were right so far. -/
def okList (q : Qy) (a : Nat) : Bool := (preK q a).all nodesB
theorem okList_next (q : Qy) (a : Nat) (h : a < 3) : okList q (a + 1) = (okList q a && (curK q a).all nodesB) := by
  unfold okList
  rw [preK_succ q a h, List.all_append]
theorem okList_end (q : Qy) : (okList q 3 && nodeB q) = nodesB q := by
  unfold okList
  rw [preK_three, nodesB_kids]
theorem nodes_false (q : Qy) (a : Nat) (h : (curK q a).all nodesB = false) (ha : a < 3) : nodesB q = false := by
  rw [nodesB_kids]
  have e : q.kids = q.must ++ q.should ++ q.nots := by simp [Qy.kids]
  rw [e, List.all_append, List.all_append]
  rcases (show a = 0 ∨ a = 1 ∨ a = 2 by omega) with rfl | rfl | rfl
  · rw [show curK q 0 = q.must from rfl] at h; rw [h]; simp
  · rw [show curK q 1 = q.should from rfl] at h; rw [h]; simp
  · rw [show curK q 2 = q.nots from rfl] at h; rw [h]; simp
set_option maxRecDepth 100000 in
set_option maxHeartbeats 1600000 in
theorem query_nodes (n : Nat) : ∀ (q : Qy) (vm vs vn : Value) (w : World), QVal w n q vm vs vn → cnt q ≤ 100000 → Tabs w → Calls Tryz.prog 24 #[qV q vm vs vn] w fun e w' => e = .returned (.bool (nodesB q)) ∧ Below w.heap.size w w' := by
  induction n using Nat.strongRecOn with
  | _ n ih =>
    intro q vm vs vn w h hm hT
    have IH := Lib.hid ih
    have HQ := Lib.hid h
    have HT := Lib.hid hT
    obtain ⟨om, cm, rfl, lm, _⟩ := h.must.form
    obtain ⟨os, cs, rfl, ls, _⟩ := h.should.form
    obtain ⟨on, cn, rfl, ln, _⟩ := h.nots.form
    have HL := Lib.hid (fun w => query_lists q om os on q.must.length q.should.length q.nots.length cm cs cn w)
    obtain ⟨x0, x1, x2⟩ := idx3 om os on q.must.length q.should.length q.nots.length cm cs cn
    have Hs0 : Hid (okList q 0 = true) := Lib.hid rfl
    have Hse := Lib.hid (okList_end q)
    have Hkd := Lib.hid (show ∀ k ∈ q.kids, cnt k ≤ 100000 from fun k hk => by
      have h1 := cnt_mem hk
      have h3 := cnt_kids q
      omega)
    have HN := Lib.hid (fun (w' : World) (hb : Below w.heap.size w w') => query_node n q _ _ _ w' (h.below hb) hm (hT.below hb))
    obtain ⟨b0, b1, b2, b3, b4⟩ := boxedQ w q (.slice om q.must.length cm) (.slice os q.should.length cs) (.slice on q.nots.length cn) 24
    have b0 := Lib.hid b0
    have b1 := Lib.hid b1
    have b2 := Lib.hid b2
    have b3 := Lib.hid b3
    have b4 := Lib.hid b4
    have Hb0 : Hid (Below w.heap.size w (w.alloc (.cells #[.int .i64 q.kind, .string (B q.text), .slice om q.must.length cm, .slice os q.should.length cs, .slice on q.nots.length cn] 24))) := Lib.hid (step_new (Below.refl _ _) _)
    clear ih h hT hm
    unfold qV at HL HN
    show Calls Tryz.prog 24 #[.agg #[.int .i64 q.kind, .string (B q.text), .slice om q.must.length cm, .slice os q.should.length cs, .slice on q.nots.length cn]] w _
    go_enter Tryz.func24, Tryz.ntmps24
    go_wp2_with fail
    refine (HL.out _).mono ?_
    rintro e w1 ⟨rfl, hb1⟩
    have HB1 := Lib.hid hb1
    clear hb1
    go_wp2
    go_loopw [7] (fun x7 wr => ∃ (a : Nat) (z : Int), a ≤ 3 ∧ z = (a : Int) ∧ x7 = .int .i64 z ∧ okList q a = true ∧ Below (w.alloc (.cells #[.int .i64 q.kind, .string (B q.text), .slice om q.must.length cm, .slice os q.should.length cs, .slice on q.nots.length cn] 24)).heap.size (w.alloc (.cells #[.int .i64 q.kind, .string (B q.text), .slice om q.must.length cm, .slice os q.should.length cs, .slice on q.nots.length cn] 24)) wr) (fun x7 _ => 3 - (intOf x7).toNat)
    case atStart => exact ⟨0, 0, by omega, rfl, rfl, Hs0.out, HB1.out⟩
    case round =>
      obtain ⟨a, z, ha, hz, rfl, hok, hbel⟩ := hrel
      have Hok := Lib.hid hok
      have Hbel := Lib.hid hbel
      have HBw := Lib.hid (step_call Hb0.out hbel)
      clear hbel hok
      rcases (show a = 0 ∨ a = 1 ∨ a = 2 ∨ a = 3 by omega) with rfl | rfl | rfl | rfl
      · obtain rfl : z = 0 := by omega
        clear hz
        have Hnx := Lib.hid (okList_next q 0 (by omega))
        have Hno := Lib.hid (fun h => nodes_false q 0 h (by omega))
        rw [show curK q 0 = q.must from rfl] at Hnx Hno
        have HC := Lib.hid (contains_query n q.must om cm wr (HQ.out.must.below HBw.out) (fun k hk => Hkd.out k (by simp [Qy.kids, hk])) (HT.out.below HBw.out) IH.out)
        generalize q.must.all nodesB = al at *
        cases al
        · have Hn0 := Lib.hid (Hno.out rfl)
          clear Hno Hnx
          go_wp2_with (go_at_call 40; refine HC.out.mono ?_; rintro e w3 ⟨rfl, hb2⟩)
          go_ret
          exact ⟨by rw [Hn0.out]; rfl, step_call HBw.out hb2⟩
        · clear Hno
          go_wp2_with (go_at_call 40; refine HC.out.mono ?_; rintro e w3 ⟨rfl, hb2⟩)
          go_roundw
          case rel => exact ⟨0 + 1, _, by omega, rfl, by first | rfl | go_num, by rw [Hnx.out, Hok.out]; rfl, step_call Hbel.out hb2⟩
          case measure => simp [intOf]
      · obtain rfl : z = 1 := by omega
        clear hz
        have Hnx := Lib.hid (okList_next q 1 (by omega))
        have Hno := Lib.hid (fun h => nodes_false q 1 h (by omega))
        rw [show curK q 1 = q.should from rfl] at Hnx Hno
        have HC := Lib.hid (contains_query n q.should os cs wr (HQ.out.should.below HBw.out) (fun k hk => Hkd.out k (by simp [Qy.kids, hk])) (HT.out.below HBw.out) IH.out)
        generalize q.should.all nodesB = al at *
        cases al
        · have Hn0 := Lib.hid (Hno.out rfl)
          clear Hno Hnx
          go_wp2_with (go_at_call 40; refine HC.out.mono ?_; rintro e w3 ⟨rfl, hb2⟩)
          go_ret
          exact ⟨by rw [Hn0.out]; rfl, step_call HBw.out hb2⟩
        · clear Hno
          go_wp2_with (go_at_call 40; refine HC.out.mono ?_; rintro e w3 ⟨rfl, hb2⟩)
          go_roundw
          case rel => exact ⟨1 + 1, _, by omega, rfl, by first | rfl | go_num, by rw [Hnx.out, Hok.out]; rfl, step_call Hbel.out hb2⟩
          case measure => simp [intOf]
      · obtain rfl : z = 2 := by omega
        clear hz
        have Hnx := Lib.hid (okList_next q 2 (by omega))
        have Hno := Lib.hid (fun h => nodes_false q 2 h (by omega))
        rw [show curK q 2 = q.nots from rfl] at Hnx Hno
        have HC := Lib.hid (contains_query n q.nots on cn wr (HQ.out.nots.below HBw.out) (fun k hk => Hkd.out k (by simp [Qy.kids, hk])) (HT.out.below HBw.out) IH.out)
        generalize q.nots.all nodesB = al at *
        cases al
        · have Hn0 := Lib.hid (Hno.out rfl)
          clear Hno Hnx
          go_wp2_with (go_at_call 40; refine HC.out.mono ?_; rintro e w3 ⟨rfl, hb2⟩)
          go_ret
          exact ⟨by rw [Hn0.out]; rfl, step_call HBw.out hb2⟩
        · clear Hno
          go_wp2_with (go_at_call 40; refine HC.out.mono ?_; rintro e w3 ⟨rfl, hb2⟩)
          go_roundw
          case rel => exact ⟨2 + 1, _, by omega, rfl, by first | rfl | go_num, by rw [Hnx.out, Hok.out]; rfl, step_call Hbel.out hb2⟩
          case measure => simp [intOf]
      · obtain rfl : z = 3 := by omega
        clear hz
        rw [Hok.out, Bool.true_and] at Hse
        have b0 := cell_call Hbel.out b0.out
        have b1 := cell_call Hbel.out b1.out
        have b2 := cell_call Hbel.out b2.out
        have b3 := cell_call Hbel.out b3.out
        have b4 := cell_call Hbel.out b4.out
        go_wp2_with fail
        refine (HN.out _ HBw.out).mono ?_
        rintro e w3 ⟨rfl, hb3⟩
        have HB3 := Lib.hid (step_call HBw.out hb3)
        clear hb3 b0 b1 b2 b3 b4
        generalize nodeB q = dz at *
        cases dz
        all_goals
          go_wp2
          go_ret
          exact ⟨by rw [← Hse.out]; rfl, HB3.out⟩
end Go.Proofs.YtlfhgmclnapmjaaGreatDoor
namespace Go.Proofs.YtlfhgmclnapmjaaGreatDoor
open Go.RowKit Go.Utf Go.Qry
attribute [local go_sem] Oper.semAt_some

theorem right_size (q : Qy) : rightB q = (decide ((sizeN q).1 ≤ 100) && (decide ((sizeN q).2 ≤ 20) && nodesB q)) := by
  unfold rightB sizeN
  split
  · rw [decide_eq_false (show ¬ cnt q ≤ 100 by omega)]; simp
  · rfl
theorem size_cnt (q : Qy) (h : (sizeN q).1 ≤ 100) : cnt q ≤ 100000 := by
  unfold sizeN at h
  split at h
  · simp at h
  · simp only at h; omega
set_option maxRecDepth 100000 in
set_option maxHeartbeats 1600000 in
theorem query_Right (n : Nat) (q : Qy) (vm vs vn : Value) (w : World) (h : QVal w n q vm vs vn) (hT : Tabs w) : Calls Tryz.prog 9 #[qV q vm vs vn] w fun e w' => e = .returned (.bool (rightB q)) ∧ Below w.heap.size w w' := by
  have HS := Lib.hid (fun (w' : World) (hb : Below w.heap.size w w') => query_Size n q vm vs vn w' (h.below hb))
  have HN := Lib.hid (fun (hc : cnt q ≤ 100000) (w' : World) (hb : Below w.heap.size w w') => query_nodes n q vm vs vn w' (h.below hb) hc (hT.below hb))
  have HR := Lib.hid (right_size q)
  have Hsc := Lib.hid (size_cnt q)
  obtain ⟨b0, b1, b2, b3, b4⟩ := boxedQ w q vm vs vn 24
  have b0 := Lib.hid b0
  have b1 := Lib.hid b1
  have b2 := Lib.hid b2
  have b3 := Lib.hid b3
  have b4 := Lib.hid b4
  clear h hT
  unfold qV at HS HN
  show Calls Tryz.prog 9 #[.agg #[.int .i64 q.kind, .string (B q.text), vm, vs, vn]] w _
  generalize (sizeN q).1 = nn at *
  generalize (sizeN q).2 = dd at *
  go_enter Tryz.func9, Tryz.ntmps9
  go_wp2_with fail
  refine (HS.out _ (step_new (Below.refl _ _) _)).mono ?_
  rintro e w1 ⟨rfl, hb1⟩
  have B1 := Lib.hid (step_call (step_new (Below.refl w.heap.size w) _) hb1)
  have b0 := cell_call hb1 b0.out
  have b1 := cell_call hb1 b1.out
  have b2 := cell_call hb1 b2.out
  have b3 := cell_call hb1 b3.out
  have b4 := cell_call hb1 b4.out
  clear hb1
  by_cases h1 : nn ≤ 100
  · by_cases h2 : dd ≤ 20
    · have HN := Lib.hid (HN.out (Hsc.out h1))
      rw [decide_eq_true h1, decide_eq_true h2, Bool.true_and, Bool.true_and] at HR
      have h1' : (nn : Int) ≤ 100 := by omega
      have h2' : (dd : Int) ≤ 20 := by omega
      clear h1 h2 Hsc
      generalize nodesB q = dz at *
      cases dz
      all_goals
        go_wp2_with (go_at_call 24; refine (HN.out _ B1.out).mono ?_; rintro e w2 ⟨rfl, hb2⟩)
        go_ret
        exact ⟨by rw [HR.out]; rfl, step_call B1.out hb2⟩
    · rw [decide_eq_false h2, Bool.false_and, Bool.and_false] at HR
      have h1' : (nn : Int) ≤ 100 := by omega
      have h2' : ¬ (dd : Int) ≤ 20 := by omega
      clear h1 h2 Hsc HN
      go_wp2
      go_ret
      exact ⟨by rw [HR.out]; rfl, B1.out⟩
  · rw [decide_eq_false h1, Bool.false_and] at HR
    have h1' : ¬ (nn : Int) ≤ 100 := by omega
    clear h1 Hsc HN
    go_wp2
    go_ret
    exact ⟨by rw [HR.out]; rfl, B1.out⟩
set_option maxRecDepth 100000 in
set_option maxHeartbeats 1600000 in
theorem ref17_Right (n : Nat) (q : Qy) (vm vs vn : Value) (w : World) (h : QVal w n q vm vs vn) : Calls Tryz.prog 8 #[qV q vm vs vn] w fun e w' => e = .returned (.bool (rightB q)) ∧ Below w.heap.size w w' := by
  have HS := Lib.hid (fun (w' : World) (hb : Below w.heap.size w w') => ref17_Size n q vm vs vn w' (h.below hb))
  have HN := Lib.hid (fun (hc : cnt q ≤ 100000) (w' : World) (hb : Below w.heap.size w w') => ref17_nodes n q vm vs vn w' (h.below hb) hc)
  have HR := Lib.hid (right_size q)
  have Hsc := Lib.hid (size_cnt q)
  obtain ⟨b0, b1, b2, b3, b4⟩ := boxedQ w q vm vs vn 24
  have b0 := Lib.hid b0
  have b1 := Lib.hid b1
  have b2 := Lib.hid b2
  have b3 := Lib.hid b3
  have b4 := Lib.hid b4
  clear h
  unfold qV at HS HN
  show Calls Tryz.prog 8 #[.agg #[.int .i64 q.kind, .string (B q.text), vm, vs, vn]] w _
  generalize (sizeN q).1 = nn at *
  generalize (sizeN q).2 = dd at *
  go_enter Tryz.func8, Tryz.ntmps8
  go_wp2_with fail
  refine (HS.out _ (step_new (Below.refl _ _) _)).mono ?_
  rintro e w1 ⟨rfl, hb1⟩
  have B1 := Lib.hid (step_call (step_new (Below.refl w.heap.size w) _) hb1)
  have b0 := cell_call hb1 b0.out
  have b1 := cell_call hb1 b1.out
  have b2 := cell_call hb1 b2.out
  have b3 := cell_call hb1 b3.out
  have b4 := cell_call hb1 b4.out
  clear hb1
  by_cases h1 : nn ≤ 100
  · by_cases h2 : dd ≤ 20
    · have HN := Lib.hid (HN.out (Hsc.out h1))
      rw [decide_eq_true h1, decide_eq_true h2, Bool.true_and, Bool.true_and] at HR
      have h1' : ¬ 100 < (nn : Int) := by omega
      have h2' : ¬ 20 < (dd : Int) := by omega
      clear h1 h2 Hsc
      generalize nodesB q = dz at *
      cases dz
      all_goals
        go_wp2_with (go_at_call 23; refine (HN.out _ B1.out).mono ?_; rintro e w2 ⟨rfl, hb2⟩)
        go_ret
        exact ⟨by rw [HR.out]; rfl, step_call B1.out hb2⟩
    · rw [decide_eq_false h2, Bool.false_and, Bool.and_false] at HR
      have h1' : ¬ 100 < (nn : Int) := by omega
      have h2' : 20 < (dd : Int) := by omega
      clear h1 h2 Hsc HN
      go_wp2
      go_ret
      exact ⟨by rw [HR.out]; rfl, B1.out⟩
  · rw [decide_eq_false h1, Bool.false_and] at HR
    have h1' : 100 < (nn : Int) := by omega
    clear h1 Hsc HN
    go_wp2
    go_ret
    exact ⟨by rw [HR.out]; rfl, B1.out⟩
end Go.Proofs.YtlfhgmclnapmjaaGreatDoor
