/- Chapter 17: slices.Index and Contains over tokens. No conditions but a length that fits. Chapter 17: slices.Contains over tokens, the inner closure of query.stands. Conditions: the places' bounds. Chapter 17: slices.IndexFunc and ContainsFunc over tokens, by the closures of query.stands. Conditions: what the closure answers. Chapter 17: query.stands. Conditions: the places' bounds. Chapter 17: codexref17.Stands. Conditions: a length that fits. -/
import Derived.Test.YtlfhgmclnapmjaaGreatDoorQryM
namespace Go.Proofs.YtlfhgmclnapmjaaGreatDoor
open Go.RowKit Go.Utf Go.Qry
attribute [local go_sem] Oper.semAt_some

/-- A token is in the list: text and place the same, the place an Int. -/
def hasT (l : Tks) (t : Tx) (p : Int) : Bool := l.any fun x => decide (x.1 = t) && decide ((x.2 : Int) = p)
theorem hasT_snoc (l : Tks) (t : Tx) (p : Int) (k : Nat) (h : k < l.length) : hasT (l.take (k + 1)) t p = (hasT (l.take k) t p || (decide (l[k].1 = t) && decide ((l[k].2 : Int) = p))) := by
  unfold hasT
  rw [List.take_add_one, List.getElem?_eq_getElem h, List.any_append]
  simp
theorem hasT_hit (l : Tks) (t : Tx) (p : Int) (k : Nat) (h : k < l.length) (h1 : (decide (l[k].1 = t) && decide ((l[k].2 : Int) = p)) = true) : hasT l t p = true := by
  unfold hasT
  rw [List.any_eq_true]
  exact ⟨l[k], List.getElem_mem h, h1⟩
set_option maxRecDepth 100000 in
set_option maxHeartbeats 1600000 in
theorem index_token (v : Value) (l : Tks) (t : Tx) (p : Int) (hn : l.length ≤ 9223372036854775807) (w : World) (hv : Toks w v l) :
    Calls Tryz.prog 83 #[v, .agg #[.string (B t), .int .i64 p]] w fun e w' => (∃ z : Int, e = .returned (.int .i64 z) ∧ -1 ≤ z ∧ z ≤ 9223372036854775807 ∧ decide (0 ≤ z) = hasT l t p) ∧ Below w.heap.size w w' := by
  obtain ⟨oa, oc, rfl, hcell⟩ := hv
  have Hcell := Lib.hid hcell
  have hb0 := step_new (Below.refl w.heap.size w) (.cells #[.string (B t), .int .i64 p] 44)
  have Hb0 := Lib.hid hb0
  have g0 := heap_alloc_new w (.cells #[.string (B t), .int .i64 p] 44)
  have k0 : (w.alloc (.cells #[.string (B t), .int .i64 p] 44)).cell? ⟨w.heap.size, 0, none⟩ = some (.string (B t)) := by rw [Lib.cell_of_heap g0]; rfl
  have k1 : (w.alloc (.cells #[.string (B t), .int .i64 p] 44)).cell? ⟨w.heap.size, 1, none⟩ = some (.int .i64 p) := by rw [Lib.cell_of_heap g0]; rfl
  have K0 := Lib.hid k0
  have K1 := Lib.hid k1
  clear hcell hb0 g0 k0 k1
  go_enter Tryz.func83, Tryz.ntmps83
  go_wp2
  generalize w.alloc (.cells #[.string (B t), .int .i64 p] 44) = w1 at *
  go_loopw [8] (fun x8 wr => ∃ k : Nat, k ≤ l.length ∧ x8 = .int .i64 k ∧ hasT (l.take k) t p = false ∧ Below w1.heap.size w1 wr) (fun x8 _ => l.length - (intOf x8).toNat)
  case atStart => exact ⟨0, by omega, rfl, rfl, Below.refl _ _⟩
  case round =>
    obtain ⟨k, hk, rfl, hno, hbel⟩ := hrel
    have Hno := Lib.hid hno
    clear hno
    by_cases hlt : k < l.length
    · obtain ⟨b1, f1, rfl, hb1, d1, d1'⟩ := Hcell.out k hlt
      have hbw := Hb0.out.trans (hbel.mono Hb0.out.size)
      have d1 := cell_below hbw hb1 d1
      have d1' := cell_below hbw hb1 d1'
      have k0 := cell_call hbel K0.out
      have k1 := cell_call hbel K1.out
      have Hsn := Lib.hid (hasT_snoc l t p k hlt)
      have Hhit := Lib.hid (hasT_hit l t p k hlt)
      have Hbel := Lib.hid hbel
      clear hbel hbw
      generalize l[k] = x at *
      obtain ⟨x, q⟩ := x
      simp only at d1 d1' Hsn Hhit
      have e1 : ((B t).toList == (B x).toList) = decide (x = t) := by rw [toList_B, toList_B, Bool.eq_iff_iff, beq_iff_eq, decide_eq_true_eq]; exact eq_comm
      have e2 : (p == (q : Int)) = decide ((q : Int) = p) := by rw [Bool.eq_iff_iff, beq_iff_eq, decide_eq_true_eq]; exact eq_comm
      generalize decide (x = t) = c1 at *
      generalize decide ((q : Int) = p) = c2 at *
      have hk1 : (k : Int) < (l.length : Int) := by omega
      cases c1 <;> cases c2
      case true.true =>
        have Hh := Lib.hid (Hhit.out rfl)
        clear Hhit
        go_wp2
        go_quiet (fail)
        go_wp2
        go_ret
        exact ⟨⟨k, rfl, by omega, by omega, by rw [Hh.out]; simp⟩, step_call Hb0.out (below_to_drewN Hbel.out _)⟩
      all_goals
        clear Hhit
        go_wp2
        go_quiet (fail)
        go_wp2
        go_roundw
        case rel => exact ⟨k + 1, by omega, by go_num, by rw [Hsn.out, Hno.out]; rfl, below_to_drewN Hbel.out _⟩
        case measure => simp [intOf]; omega
    · obtain rfl : k = l.length := by omega
      have Hno' : Hid (hasT l t p = false) := Lib.hid (by have := Hno.out; rwa [List.take_of_length_le (Nat.le_refl _)] at this)
      go_wp2
      go_ret
      exact ⟨⟨-1, rfl, by omega, by omega, by rw [Hno'.out]; rfl⟩, step_call Hb0.out hbel⟩
end Go.Proofs.YtlfhgmclnapmjaaGreatDoor
namespace Go.Proofs.YtlfhgmclnapmjaaGreatDoor
open Go.RowKit Go.Utf Go.Qry
attribute [local go_sem] Oper.semAt_some

set_option maxRecDepth 100000 in
set_option maxHeartbeats 1600000 in
theorem contains_token (v : Value) (l : Tks) (t : Tx) (p : Int) (hn : l.length ≤ 9223372036854775807) (w : World) (hv : Toks w v l) :
    Calls Tryz.prog 55 #[v, .agg #[.string (B t), .int .i64 p]] w fun e w' => e = .returned (.bool (hasT l t p)) ∧ Below w.heap.size w w' := by
  have hb0 := step_new (Below.refl w.heap.size w) (.cells #[.string (B t), .int .i64 p] 44)
  have Hb0 := Lib.hid hb0
  have H := Lib.hid (index_token v l t p hn _ (hv.below hb0))
  clear hb0 hv
  generalize hasT l t p = al at *
  go_enter Tryz.func55, Tryz.ntmps55
  go_wp2_with fail
  refine H.out.mono ?_
  rintro e w1 ⟨⟨z, rfl, hz1, hz2, hz⟩, hb1⟩
  have HB := Lib.hid (step_call Hb0.out hb1)
  clear hb1
  by_cases h0 : 0 ≤ z
  · have Hz : Hid (al = true) := Lib.hid (by rw [← hz]; exact decide_eq_true h0)
    clear hz
    go_wp2
    go_ret
    exact ⟨by rw [Hz.out]; first | rfl | simp [h0], HB.out⟩
  · have Hz : Hid (al = false) := Lib.hid (by rw [← hz]; exact decide_eq_false h0)
    clear hz
    have h0' : z < 0 := by omega
    go_wp2
    go_ret
    exact ⟨by rw [Hz.out]; first | rfl | simp [h0], HB.out⟩
set_option maxRecDepth 100000 in
set_option maxHeartbeats 1600000 in
theorem stands_inner (x : Tx) (px pt : Nat) (v : Value) (l : Tks) (lb tb : Nat) (hx : px ≤ 1000000) (ht : pt ≤ 1000000) (hn : l.length ≤ 9223372036854775807) (w : World) (hv : Toks w v l) (hl : w.cell? ⟨lb, 0, none⟩ = some v) (htc : w.cell? ⟨tb, 1, none⟩ = some (.int .i64 (pt : Nat))) :
    Calls Tryz.prog 54 #[.agg #[.string (B x), .int .i64 (px : Nat)], .pointer (some ⟨lb, 0, none⟩), .pointer (some ⟨tb, 0, none⟩)] w fun e w' => e = .returned (.bool (!(hasT l x ((pt : Int) + (px : Int))))) ∧ Below w.heap.size w w' := by
  have hb0 := step_new (Below.refl w.heap.size w) (.cells #[.string (B x), .int .i64 (px : Nat)] 44)
  have Hb0 := Lib.hid hb0
  have H := Lib.hid (contains_token v l x ((pt : Int) + (px : Int)) hn _ (hv.below hb0))
  have hw1 : IntKind.i64.wrap ((pt : Int) + (px : Int)) = (pt : Int) + (px : Int) := IntWalk.i64_in _ (by omega)
  obtain ⟨oa, oc, rfl, -⟩ := hv
  have g0 := heap_alloc_new w (.cells #[.string (B x), .int .i64 (px : Nat)] 44)
  have k0 : (w.alloc (.cells #[.string (B x), .int .i64 (px : Nat)] 44)).cell? ⟨w.heap.size, 0, none⟩ = some (.string (B x)) := by rw [Lib.cell_of_heap g0]; rfl
  have k1 : (w.alloc (.cells #[.string (B x), .int .i64 (px : Nat)] 44)).cell? ⟨w.heap.size, 1, none⟩ = some (.int .i64 (px : Nat)) := by rw [Lib.cell_of_heap g0]; rfl
  have k2 := cell_alloc (.cells #[.string (B x), .int .i64 (px : Nat)] 44) hl
  have k3 := cell_alloc (.cells #[.string (B x), .int .i64 (px : Nat)] 44) htc
  clear hb0 g0
  generalize hasT l x ((pt : Int) + (px : Int)) = al at *
  go_enter Tryz.func54, Tryz.ntmps54
  cases al
  all_goals
    go_wp2_with (go_at_call 55; refine H.out.mono ?_; rintro e w2 ⟨rfl, hb2⟩)
    go_ret
    exact ⟨rfl, step_call Hb0.out hb2⟩
end Go.Proofs.YtlfhgmclnapmjaaGreatDoor
namespace Go.Proofs.YtlfhgmclnapmjaaGreatDoor
open Go.RowKit Go.Utf Go.Qry
attribute [local go_sem] Oper.semAt_some

theorem anyT_snoc (l : Tks) (f : Tx × Nat → Bool) (k : Nat) (h : k < l.length) : (l.take (k + 1)).any f = ((l.take k).any f || f l[k]) := by
  rw [List.take_add_one, List.getElem?_eq_getElem h, List.any_append]
  simp
theorem anyT_hit (l : Tks) (f : Tx × Nat → Bool) (k : Nat) (h : k < l.length) (h1 : f l[k] = true) : l.any f = true := by
  rw [List.any_eq_true]
  exact ⟨l[k], List.getElem_mem h, h1⟩
set_option maxRecDepth 100000 in
set_option maxHeartbeats 1600000 in
theorem index_inner (v : Value) (l : Tks) (f : Tx × Nat → Bool) (ba bb : Nat) (hn : l.length ≤ 9223372036854775807) (w : World) (hv : Toks w v l)
    (hf : ∀ x ∈ l, ∀ w', Below w.heap.size w w' → Calls Tryz.prog 54 #[.agg #[.string (B x.1), .int .i64 (x.2 : Nat)], .pointer (some ⟨ba, 0, none⟩), .pointer (some ⟨bb, 0, none⟩)] w' fun e w'' => e = .returned (.bool (f x)) ∧ Below w'.heap.size w' w'') :
    Calls Tryz.prog 62 #[v, .func (.func 54) #[] #[.pointer (some ⟨ba, 0, none⟩), .pointer (some ⟨bb, 0, none⟩)]] w fun e w' => (∃ z : Int, e = .returned (.int .i64 z) ∧ -1 ≤ z ∧ z ≤ 9223372036854775807 ∧ decide (0 ≤ z) = l.any f) ∧ Below w.heap.size w w' := by
  obtain ⟨oa, oc, rfl, hcell⟩ := hv
  have Hcell := Lib.hid hcell
  have Hf := Lib.hid hf
  clear hcell hf
  go_enter Tryz.func62, Tryz.ntmps62
  go_wp2
  go_loopw [8] (fun x8 wr => ∃ k : Nat, k ≤ l.length ∧ x8 = .int .i64 k ∧ (l.take k).any f = false ∧ Below w.heap.size w wr) (fun x8 _ => l.length - (intOf x8).toNat)
  case atStart => exact ⟨0, by omega, rfl, rfl, Below.refl _ _⟩
  case round =>
    obtain ⟨k, hk, rfl, hno, hbel⟩ := hrel
    have Hno := Lib.hid hno
    clear hno
    by_cases hlt : k < l.length
    · obtain ⟨b1, f1, rfl, hb1, d1, d1'⟩ := Hcell.out k hlt
      have d1 := cell_below hbel hb1 d1
      have d1' := cell_below hbel hb1 d1'
      have HC := Lib.hid (Hf.out l[k] (List.getElem_mem hlt) wr hbel)
      have Hsn := Lib.hid (anyT_snoc l f k hlt)
      have Hhit := Lib.hid (anyT_hit l f k hlt)
      have Hbel := Lib.hid hbel
      clear hbel
      generalize l[k] = x at *
      generalize f x = fx at *
      obtain ⟨x, q⟩ := x
      simp only at d1 d1' HC
      have hk1 : (k : Int) < (l.length : Int) := by omega
      cases fx
      · clear Hhit
        go_wp2_with (go_at_call 54; refine HC.out.mono ?_; rintro e w3 ⟨rfl, hb2⟩)
        go_roundw
        case rel => exact ⟨k + 1, by omega, by go_num, by rw [Hsn.out, Hno.out]; rfl, step_call Hbel.out hb2⟩
        case measure => simp [intOf]; omega
      · have Hh := Lib.hid (Hhit.out rfl)
        clear Hhit
        go_wp2_with (go_at_call 54; refine HC.out.mono ?_; rintro e w3 ⟨rfl, hb2⟩)
        go_ret
        exact ⟨⟨k, rfl, by omega, by omega, by rw [Hh.out]; simp⟩, step_call Hbel.out hb2⟩
    · obtain rfl : k = l.length := by omega
      have Hno' : Hid (l.any f = false) := Lib.hid (by have := Hno.out; rwa [List.take_of_length_le (Nat.le_refl _)] at this)
      go_wp2
      go_ret
      exact ⟨⟨-1, rfl, by omega, by omega, by rw [Hno'.out]; rfl⟩, hbel⟩
set_option maxRecDepth 100000 in
set_option maxHeartbeats 1600000 in
theorem contains_inner (v : Value) (l : Tks) (f : Tx × Nat → Bool) (ba bb : Nat) (hn : l.length ≤ 9223372036854775807) (w : World) (hv : Toks w v l)
    (hf : ∀ x ∈ l, ∀ w', Below w.heap.size w w' → Calls Tryz.prog 54 #[.agg #[.string (B x.1), .int .i64 (x.2 : Nat)], .pointer (some ⟨ba, 0, none⟩), .pointer (some ⟨bb, 0, none⟩)] w' fun e w'' => e = .returned (.bool (f x)) ∧ Below w'.heap.size w' w'') :
    Calls Tryz.prog 37 #[v, .func (.func 54) #[] #[.pointer (some ⟨ba, 0, none⟩), .pointer (some ⟨bb, 0, none⟩)]] w fun e w' => e = .returned (.bool (l.any f)) ∧ Below w.heap.size w w' := by
  have H := Lib.hid (index_inner v l f ba bb hn w hv hf)
  clear hv hf
  generalize l.any f = al at *
  go_enter Tryz.func37, Tryz.ntmps37
  go_wp2_with fail
  refine H.out.mono ?_
  rintro e w1 ⟨⟨z, rfl, hz1, hz2, hz⟩, hb1⟩
  by_cases h0 : 0 ≤ z
  · have Hz : Hid (al = true) := Lib.hid (by rw [← hz]; exact decide_eq_true h0)
    clear hz
    go_wp2
    go_ret
    exact ⟨by rw [Hz.out]; first | rfl | simp [h0], hb1⟩
  · have Hz : Hid (al = false) := Lib.hid (by rw [← hz]; exact decide_eq_false h0)
    clear hz
    have h0' : z < 0 := by omega
    go_wp2
    go_ret
    exact ⟨by rw [Hz.out]; first | rfl | simp [h0], hb1⟩
set_option maxRecDepth 100000 in
set_option maxHeartbeats 1600000 in
theorem index_outer (v : Value) (l : Tks) (f : Tx × Nat → Bool) (ba bb : Nat) (hn : l.length ≤ 9223372036854775807) (w : World) (hv : Toks w v l)
    (hf : ∀ x ∈ l, ∀ w', Below w.heap.size w w' → Calls Tryz.prog 53 #[.agg #[.string (B x.1), .int .i64 (x.2 : Nat)], .pointer (some ⟨ba, 0, none⟩), .pointer (some ⟨bb, 0, none⟩)] w' fun e w'' => e = .returned (.bool (f x)) ∧ Below w'.heap.size w' w'') :
    Calls Tryz.prog 62 #[v, .func (.func 53) #[] #[.pointer (some ⟨ba, 0, none⟩), .pointer (some ⟨bb, 0, none⟩)]] w fun e w' => (∃ z : Int, e = .returned (.int .i64 z) ∧ -1 ≤ z ∧ z ≤ 9223372036854775807 ∧ decide (0 ≤ z) = l.any f) ∧ Below w.heap.size w w' := by
  obtain ⟨oa, oc, rfl, hcell⟩ := hv
  have Hcell := Lib.hid hcell
  have Hf := Lib.hid hf
  clear hcell hf
  go_enter Tryz.func62, Tryz.ntmps62
  go_wp2
  go_loopw [8] (fun x8 wr => ∃ k : Nat, k ≤ l.length ∧ x8 = .int .i64 k ∧ (l.take k).any f = false ∧ Below w.heap.size w wr) (fun x8 _ => l.length - (intOf x8).toNat)
  case atStart => exact ⟨0, by omega, rfl, rfl, Below.refl _ _⟩
  case round =>
    obtain ⟨k, hk, rfl, hno, hbel⟩ := hrel
    have Hno := Lib.hid hno
    clear hno
    by_cases hlt : k < l.length
    · obtain ⟨b1, f1, rfl, hb1, d1, d1'⟩ := Hcell.out k hlt
      have d1 := cell_below hbel hb1 d1
      have d1' := cell_below hbel hb1 d1'
      have HC := Lib.hid (Hf.out l[k] (List.getElem_mem hlt) wr hbel)
      have Hsn := Lib.hid (anyT_snoc l f k hlt)
      have Hhit := Lib.hid (anyT_hit l f k hlt)
      have Hbel := Lib.hid hbel
      clear hbel
      generalize l[k] = x at *
      generalize f x = fx at *
      obtain ⟨x, q⟩ := x
      simp only at d1 d1' HC
      have hk1 : (k : Int) < (l.length : Int) := by omega
      cases fx
      · clear Hhit
        go_wp2_with (go_at_call 53; refine HC.out.mono ?_; rintro e w3 ⟨rfl, hb2⟩)
        go_roundw
        case rel => exact ⟨k + 1, by omega, by go_num, by rw [Hsn.out, Hno.out]; rfl, step_call Hbel.out hb2⟩
        case measure => simp [intOf]; omega
      · have Hh := Lib.hid (Hhit.out rfl)
        clear Hhit
        go_wp2_with (go_at_call 53; refine HC.out.mono ?_; rintro e w3 ⟨rfl, hb2⟩)
        go_ret
        exact ⟨⟨k, rfl, by omega, by omega, by rw [Hh.out]; simp⟩, step_call Hbel.out hb2⟩
    · obtain rfl : k = l.length := by omega
      have Hno' : Hid (l.any f = false) := Lib.hid (by have := Hno.out; rwa [List.take_of_length_le (Nat.le_refl _)] at this)
      go_wp2
      go_ret
      exact ⟨⟨-1, rfl, by omega, by omega, by rw [Hno'.out]; rfl⟩, hbel⟩
set_option maxRecDepth 100000 in
set_option maxHeartbeats 1600000 in
theorem contains_outer (v : Value) (l : Tks) (f : Tx × Nat → Bool) (ba bb : Nat) (hn : l.length ≤ 9223372036854775807) (w : World) (hv : Toks w v l)
    (hf : ∀ x ∈ l, ∀ w', Below w.heap.size w w' → Calls Tryz.prog 53 #[.agg #[.string (B x.1), .int .i64 (x.2 : Nat)], .pointer (some ⟨ba, 0, none⟩), .pointer (some ⟨bb, 0, none⟩)] w' fun e w'' => e = .returned (.bool (f x)) ∧ Below w'.heap.size w' w'') :
    Calls Tryz.prog 37 #[v, .func (.func 53) #[] #[.pointer (some ⟨ba, 0, none⟩), .pointer (some ⟨bb, 0, none⟩)]] w fun e w' => e = .returned (.bool (l.any f)) ∧ Below w.heap.size w w' := by
  have H := Lib.hid (index_outer v l f ba bb hn w hv hf)
  clear hv hf
  generalize l.any f = al at *
  go_enter Tryz.func37, Tryz.ntmps37
  go_wp2_with fail
  refine H.out.mono ?_
  rintro e w1 ⟨⟨z, rfl, hz1, hz2, hz⟩, hb1⟩
  by_cases h0 : 0 ≤ z
  · have Hz : Hid (al = true) := Lib.hid (by rw [← hz]; exact decide_eq_true h0)
    clear hz
    go_wp2
    go_ret
    exact ⟨by rw [Hz.out]; first | rfl | simp [h0], hb1⟩
  · have Hz : Hid (al = false) := Lib.hid (by rw [← hz]; exact decide_eq_false h0)
    clear hz
    have h0' : z < 0 := by omega
    go_wp2
    go_ret
    exact ⟨by rw [Hz.out]; first | rfl | simp [h0], hb1⟩
end Go.Proofs.YtlfhgmclnapmjaaGreatDoor
namespace Go.Proofs.YtlfhgmclnapmjaaGreatDoor
open Go.RowKit Go.Utf Go.Qry
attribute [local go_sem] Oper.semAt_some

def missT (l : Tks) (pt : Nat) (x : Tx × Nat) : Bool := !(hasT l x.1 ((pt : Int) + (x.2 : Int)))
def stT (p l : Tks) : Bool := l.any fun t => !(p.any (missT l t.2))
theorem stT_eq (p l : Tks) : stT p l = standB p l := by
  unfold stT standB
  congr 1
  funext t
  rw [List.not_any_eq_all_not]
  congr 1
  funext x
  unfold missT hasT
  rw [Bool.not_not, Bool.eq_iff_iff, List.any_eq_true, List.contains_iff_mem]
  constructor
  · rintro ⟨⟨a, b⟩, h1, h2⟩
    simp only [Bool.and_eq_true, decide_eq_true_eq] at h2
    obtain ⟨rfl, h3⟩ := h2
    obtain rfl : b = t.2 + x.2 := by omega
    exact h1
  · intro h
    exact ⟨_, h, by simp⟩
set_option maxRecDepth 100000 in
set_option maxHeartbeats 1600000 in
theorem stands_outer (t : Tx) (pt : Nat) (vp vl : Value) (p l : Tks) (pb lb : Nat) (ht : pt ≤ 1000000) (hpb : ∀ x ∈ p, x.2 ≤ 1000000) (hnp : p.length ≤ 9223372036854775807) (hnl : l.length ≤ 9223372036854775807) (w : World) (hp : Toks w vp p) (hl : Toks w vl l) (h1 : w.cell? ⟨pb, 0, none⟩ = some vp) (h2 : w.cell? ⟨lb, 0, none⟩ = some vl) :
    Calls Tryz.prog 53 #[.agg #[.string (B t), .int .i64 (pt : Nat)], .pointer (some ⟨pb, 0, none⟩), .pointer (some ⟨lb, 0, none⟩)] w fun e w' => e = .returned (.bool (!(p.any (missT l pt)))) ∧ Below w.heap.size w w' := by
  have hb0 := step_new (Below.refl w.heap.size w) (.cells #[.string (B t), .int .i64 (pt : Nat)] 44)
  have Hb0 := Lib.hid hb0
  have g0 := heap_alloc_new w (.cells #[.string (B t), .int .i64 (pt : Nat)] 44)
  have k1 : (w.alloc (.cells #[.string (B t), .int .i64 (pt : Nat)] 44)).cell? ⟨w.heap.size, 1, none⟩ = some (.int .i64 (pt : Nat)) := by rw [Lib.cell_of_heap g0]; rfl
  have k2 := cell_alloc (.cells #[.string (B t), .int .i64 (pt : Nat)] 44) h1
  have k3 := cell_alloc (.cells #[.string (B t), .int .i64 (pt : Nat)] 44) h2
  have H := Lib.hid (contains_inner vp p (missT l pt) lb w.heap.size hnp (w.alloc (.cells #[.string (B t), .int .i64 (pt : Nat)] 44)) (hp.below hb0) (fun x hx w' hb => stands_inner x.1 x.2 pt vl l lb w.heap.size (hpb x hx) ht hnl w' ((hl.below hb0).below hb) (cell_call hb k3) (cell_call hb k1)))
  obtain ⟨oa, oc, rfl, -⟩ := hp
  clear hb0 g0 k3
  generalize p.any (missT l pt) = al at *
  go_enter Tryz.func53, Tryz.ntmps53
  cases al
  all_goals
    go_wp2_with (go_at_call 37; refine H.out.mono ?_; rintro e w2 ⟨rfl, hb2⟩)
    go_ret
    exact ⟨rfl, step_call Hb0.out hb2⟩
set_option maxRecDepth 100000 in
set_option maxHeartbeats 1600000 in
theorem query_stands (vp vl : Value) (p l : Tks) (hpb : ∀ x ∈ p, x.2 ≤ 1000000) (hlb : ∀ x ∈ l, x.2 ≤ 1000000) (hnp : p.length ≤ 9223372036854775807) (hnl : l.length ≤ 9223372036854775807) (w : World) (hp : Toks w vp p) (hl : Toks w vl l) :
    Calls Tryz.prog 35 #[vp, vl] w fun e w' => e = .returned (.bool (standB p l)) ∧ Below w.heap.size w w' := by
  have hp0 := hp
  have hl0 := hl
  obtain ⟨pa, pc, rfl, -⟩ := hp0
  obtain ⟨la, lc, rfl, -⟩ := hl0
  have hb0 := step_new (step_new (Below.refl w.heap.size w) (.cells #[.slice pa p.length pc] 29)) (.cells #[.slice la l.length lc] 29)
  have Hb0 := Lib.hid hb0
  have g1 := heap_alloc_new (w.alloc (.cells #[.slice pa p.length pc] 29)) (.cells #[.slice la l.length lc] 29)
  rw [World.size_alloc] at g1
  have k0 : ((w.alloc (.cells #[.slice pa p.length pc] 29)).alloc (.cells #[.slice la l.length lc] 29)).cell? ⟨w.heap.size, 0, none⟩ = some (.slice pa p.length pc) := cell_alloc _ (by rw [Lib.cell_of_heap (heap_alloc_new w _)]; rfl)
  have k1 : ((w.alloc (.cells #[.slice pa p.length pc] 29)).alloc (.cells #[.slice la l.length lc] 29)).cell? ⟨w.heap.size + 1, 0, none⟩ = some (.slice la l.length lc) := by rw [Lib.cell_of_heap g1]; rfl
  have H := Lib.hid (contains_outer (.slice la l.length lc) l (fun t => !(p.any (missT l t.2))) w.heap.size (w.heap.size + 1) hnl _ (hl.below hb0) (fun t ht w' hb => stands_outer t.1 t.2 _ _ p l w.heap.size (w.heap.size + 1) (hlb t ht) hpb hnp hnl w' ((hp.below hb0).below hb) ((hl.below hb0).below hb) (cell_call hb k0) (cell_call hb k1)))
  have Hst : Hid ((l.any fun t => !(p.any (missT l t.2))) = standB p l) := Lib.hid (stT_eq p l)
  clear hb0 g1 k0
  generalize (l.any fun t => !(p.any (missT l t.2))) = al at *
  go_enter Tryz.func35, Tryz.ntmps35
  cases al
  all_goals
    go_wp2_with (go_at_call 37; refine H.out.mono ?_; rintro e w2 ⟨rfl, hb2⟩)
    go_ret
    exact ⟨by rw [← Hst.out]; rfl, step_call Hb0.out hb2⟩
end Go.Proofs.YtlfhgmclnapmjaaGreatDoor
namespace Go.Proofs.YtlfhgmclnapmjaaGreatDoor
open Go.RowKit Go.Utf Go.Qry
attribute [local go_sem] Oper.semAt_some

end Go.Proofs.YtlfhgmclnapmjaaGreatDoor
