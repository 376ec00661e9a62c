/- Chapter 17: slices.IndexFunc and ContainsFunc over queries and over tokens, by the closures of query.Matches. Conditions: what the closure answers. Chapter 17: query.Matches. Conditions: the tokens' bounds, a short query, the tables. Chapter 17: query.Matches. Conditions: the tokens' bounds, a short query, the tables. -/
import Derived.Test.YtlfhgmclnapmjaaGreatDoorQryT
import Derived.Test.YtlfhgmclnapmjaaGreatDoorHasPrefix
import Derived.Laws.EntriesVeiled
namespace Go.Proofs.YtlfhgmclnapmjaaGreatDoor
open Go.RowKit Go.Utf Go.Qry
attribute [local go_sem] Oper.semAt_some

set_option maxRecDepth 100000 in
set_option maxHeartbeats 1600000 in
theorem index_mat (n : Nat) (l : List Qy) (f : Qy → Bool) (oa : Option Addr) (c pb : Nat) (w : World) (hr : QRow w n (.slice oa l.length c) l)
    (hf : ∀ u ∈ l, ∀ m, m < n → ∀ (um us un : Value) (w' : World), Below w.heap.size w w' → QVal w' m u um us un → Calls Tryz.prog 34 #[qV u um us un, .pointer (some ⟨pb, 0, none⟩)] w' fun e w'' => e = .returned (.bool (f u)) ∧ Below w'.heap.size w' w'') :
    Calls Tryz.prog 64 #[.slice oa l.length c, .func (.func 34) #[] #[.pointer (some ⟨pb, 0, none⟩)]] w fun e w' => (∃ z : Int, e = .returned (.int .i64 z) ∧ -1 ≤ z ∧ z ≤ 9223372036854775807 ∧ decide (0 ≤ z) = l.any f) ∧ Below w.heap.size w w' := by
  obtain ⟨oa', c', e, hll, hcell⟩ := hr.form
  simp only [Value.slice.injEq, true_and] at e
  obtain ⟨rfl, rfl⟩ := e
  have Hcell := Lib.hid hcell
  have Hf := Lib.hid hf
  clear hcell hf hr
  go_enter Tryz.func64, Tryz.ntmps64
  go_wp2
  go_loopw [8] (fun x8 wr => ∃ b : Nat, b ≤ l.length ∧ (l.take b).any f = false ∧ x8 = .int .i64 b ∧ Below w.heap.size w wr) (fun x8 _ => l.length - (intOf x8).toNat)
  case atStart => exact ⟨0, by omega, rfl, rfl, Below.refl _ _⟩
  case round =>
    obtain ⟨b, hb, hal, rfl, hbel⟩ := hrel
    have Hbel := Lib.hid hbel
    have Hal := Lib.hid hal
    clear hal
    by_cases hlt : b < l.length
    · have Hst := Lib.hid (anyQ_snoc l f b hlt)
      have Hhit := Lib.hid (anyQ_hit l f b hlt)
      obtain ⟨bb, off, k, um, us, un, hnk, rfl, hbb, hcc, c0, c1, c2, c3, c4, hv⟩ := Hcell.out b hlt
      have c0 := cell_below hbel hbb c0
      have c1 := cell_below hbel hbb c1
      have c2 := cell_below hbel hbb c2
      have c3 := cell_below hbel hbb c3
      have c4 := cell_below hbel hbb c4
      have hki : (b : Int) < (l.length : Int) := by omega
      have HC := Lib.hid (Hf.out l[b] (List.getElem_mem hlt) k (by omega) um us un wr hbel (hv.below hbel))
      clear hbel hv
      generalize l[b] = u at *
      unfold qV at HC
      generalize f u = fu at *
      cases fu
      · clear Hhit
        go_wp2_with (go_at_call 34; refine HC.out.mono ?_; rintro e w3 ⟨rfl, hb2⟩)
        go_roundw
        case rel => exact ⟨b + 1, by omega, by rw [Hst.out, Hal.out]; rfl, by go_num, step_call Hbel.out hb2⟩
        case measure => simp [intOf]; omega
      · have Hh := Lib.hid (Hhit.out rfl)
        clear Hhit
        go_wp2_with (go_at_call 34; refine HC.out.mono ?_; rintro e w3 ⟨rfl, hb2⟩)
        go_ret
        exact ⟨⟨b, rfl, by omega, by omega, by rw [Hh.out]; simp⟩, step_call Hbel.out hb2⟩
    · obtain rfl : b = l.length := by omega
      have Hal' : Hid (l.any f = false) := Lib.hid (by have := Hal.out; rwa [List.take_of_length_le (Nat.le_refl _)] at this)
      clear Hal
      go_wp2
      go_ret
      exact ⟨⟨-1, rfl, by omega, by omega, by rw [Hal'.out]; rfl⟩, Hbel.out⟩
set_option maxRecDepth 100000 in
set_option maxHeartbeats 1600000 in
theorem contains_mat (n : Nat) (l : List Qy) (f : Qy → Bool) (oa : Option Addr) (c pb : Nat) (w : World) (hr : QRow w n (.slice oa l.length c) l)
    (hf : ∀ u ∈ l, ∀ m, m < n → ∀ (um us un : Value) (w' : World), Below w.heap.size w w' → QVal w' m u um us un → Calls Tryz.prog 34 #[qV u um us un, .pointer (some ⟨pb, 0, none⟩)] w' fun e w'' => e = .returned (.bool (f u)) ∧ Below w'.heap.size w' w'') :
    Calls Tryz.prog 40 #[.slice oa l.length c, .func (.func 34) #[] #[.pointer (some ⟨pb, 0, none⟩)]] w fun e w' => e = .returned (.bool (l.any f)) ∧ Below w.heap.size w w' := by
  have H := Lib.hid (index_mat n l f oa c pb w hr hf)
  clear hr hf
  generalize l.any f = al at *
  go_enter Tryz.func40, Tryz.ntmps40
  go_wp2_with fail
  refine H.out.mono ?_
  rintro e w1 ⟨⟨z, rfl, hz1, hz2, hz⟩, hb1⟩
  by_cases h0 : 0 ≤ z
  · have Hz : Hid (al = true) := Lib.hid (by rw [← hz]; exact decide_eq_true h0)
    clear hz
    go_wp2
    go_ret
    exact ⟨by rw [Hz.out]; first | rfl | simp [h0], hb1⟩
  · have Hz : Hid (al = false) := Lib.hid (by rw [← hz]; exact decide_eq_false h0)
    clear hz
    have h0' : z < 0 := by omega
    go_wp2
    go_ret
    exact ⟨by rw [Hz.out]; first | rfl | simp [h0], hb1⟩
set_option maxRecDepth 100000 in
set_option maxHeartbeats 1600000 in
theorem index_nomat (n : Nat) (l : List Qy) (f : Qy → Bool) (oa : Option Addr) (c pb : Nat) (w : World) (hr : QRow w n (.slice oa l.length c) l)
    (hf : ∀ u ∈ l, ∀ m, m < n → ∀ (um us un : Value) (w' : World), Below w.heap.size w w' → QVal w' m u um us un → Calls Tryz.prog 41 #[qV u um us un, .pointer (some ⟨pb, 0, none⟩)] w' fun e w'' => e = .returned (.bool (f u)) ∧ Below w'.heap.size w' w'') :
    Calls Tryz.prog 64 #[.slice oa l.length c, .func (.func 41) #[] #[.pointer (some ⟨pb, 0, none⟩)]] w fun e w' => (∃ z : Int, e = .returned (.int .i64 z) ∧ -1 ≤ z ∧ z ≤ 9223372036854775807 ∧ decide (0 ≤ z) = l.any f) ∧ Below w.heap.size w w' := by
  obtain ⟨oa', c', e, hll, hcell⟩ := hr.form
  simp only [Value.slice.injEq, true_and] at e
  obtain ⟨rfl, rfl⟩ := e
  have Hcell := Lib.hid hcell
  have Hf := Lib.hid hf
  clear hcell hf hr
  go_enter Tryz.func64, Tryz.ntmps64
  go_wp2
  go_loopw [8] (fun x8 wr => ∃ b : Nat, b ≤ l.length ∧ (l.take b).any f = false ∧ x8 = .int .i64 b ∧ Below w.heap.size w wr) (fun x8 _ => l.length - (intOf x8).toNat)
  case atStart => exact ⟨0, by omega, rfl, rfl, Below.refl _ _⟩
  case round =>
    obtain ⟨b, hb, hal, rfl, hbel⟩ := hrel
    have Hbel := Lib.hid hbel
    have Hal := Lib.hid hal
    clear hal
    by_cases hlt : b < l.length
    · have Hst := Lib.hid (anyQ_snoc l f b hlt)
      have Hhit := Lib.hid (anyQ_hit l f b hlt)
      obtain ⟨bb, off, k, um, us, un, hnk, rfl, hbb, hcc, c0, c1, c2, c3, c4, hv⟩ := Hcell.out b hlt
      have c0 := cell_below hbel hbb c0
      have c1 := cell_below hbel hbb c1
      have c2 := cell_below hbel hbb c2
      have c3 := cell_below hbel hbb c3
      have c4 := cell_below hbel hbb c4
      have hki : (b : Int) < (l.length : Int) := by omega
      have HC := Lib.hid (Hf.out l[b] (List.getElem_mem hlt) k (by omega) um us un wr hbel (hv.below hbel))
      clear hbel hv
      generalize l[b] = u at *
      unfold qV at HC
      generalize f u = fu at *
      cases fu
      · clear Hhit
        go_wp2_with (go_at_call 41; refine HC.out.mono ?_; rintro e w3 ⟨rfl, hb2⟩)
        go_roundw
        case rel => exact ⟨b + 1, by omega, by rw [Hst.out, Hal.out]; rfl, by go_num, step_call Hbel.out hb2⟩
        case measure => simp [intOf]; omega
      · have Hh := Lib.hid (Hhit.out rfl)
        clear Hhit
        go_wp2_with (go_at_call 41; refine HC.out.mono ?_; rintro e w3 ⟨rfl, hb2⟩)
        go_ret
        exact ⟨⟨b, rfl, by omega, by omega, by rw [Hh.out]; simp⟩, step_call Hbel.out hb2⟩
    · obtain rfl : b = l.length := by omega
      have Hal' : Hid (l.any f = false) := Lib.hid (by have := Hal.out; rwa [List.take_of_length_le (Nat.le_refl _)] at this)
      clear Hal
      go_wp2
      go_ret
      exact ⟨⟨-1, rfl, by omega, by omega, by rw [Hal'.out]; rfl⟩, Hbel.out⟩
set_option maxRecDepth 100000 in
set_option maxHeartbeats 1600000 in
theorem contains_nomat (n : Nat) (l : List Qy) (f : Qy → Bool) (oa : Option Addr) (c pb : Nat) (w : World) (hr : QRow w n (.slice oa l.length c) l)
    (hf : ∀ u ∈ l, ∀ m, m < n → ∀ (um us un : Value) (w' : World), Below w.heap.size w w' → QVal w' m u um us un → Calls Tryz.prog 41 #[qV u um us un, .pointer (some ⟨pb, 0, none⟩)] w' fun e w'' => e = .returned (.bool (f u)) ∧ Below w'.heap.size w' w'') :
    Calls Tryz.prog 40 #[.slice oa l.length c, .func (.func 41) #[] #[.pointer (some ⟨pb, 0, none⟩)]] w fun e w' => e = .returned (.bool (l.any f)) ∧ Below w.heap.size w w' := by
  have H := Lib.hid (index_nomat n l f oa c pb w hr hf)
  clear hr hf
  generalize l.any f = al at *
  go_enter Tryz.func40, Tryz.ntmps40
  go_wp2_with fail
  refine H.out.mono ?_
  rintro e w1 ⟨⟨z, rfl, hz1, hz2, hz⟩, hb1⟩
  by_cases h0 : 0 ≤ z
  · have Hz : Hid (al = true) := Lib.hid (by rw [← hz]; exact decide_eq_true h0)
    clear hz
    go_wp2
    go_ret
    exact ⟨by rw [Hz.out]; first | rfl | simp [h0], hb1⟩
  · have Hz : Hid (al = false) := Lib.hid (by rw [← hz]; exact decide_eq_false h0)
    clear hz
    have h0' : z < 0 := by omega
    go_wp2
    go_ret
    exact ⟨by rw [Hz.out]; first | rfl | simp [h0], hb1⟩
set_option maxRecDepth 100000 in
set_option maxHeartbeats 1600000 in
theorem index_pref (v : Value) (l : Tks) (f : Tx × Nat → Bool) (ba : Nat) (hn : l.length ≤ 9223372036854775807) (w : World) (hv : Toks w v l)
    (hf : ∀ x ∈ l, ∀ w', Below w.heap.size w w' → Calls Tryz.prog 38 #[.agg #[.string (B x.1), .int .i64 (x.2 : Nat)], .pointer (some ⟨ba, 0, none⟩)] w' fun e w'' => e = .returned (.bool (f x)) ∧ Below w'.heap.size w' w'') :
    Calls Tryz.prog 62 #[v, .func (.func 38) #[] #[.pointer (some ⟨ba, 0, none⟩)]] w fun e w' => (∃ z : Int, e = .returned (.int .i64 z) ∧ -1 ≤ z ∧ z ≤ 9223372036854775807 ∧ decide (0 ≤ z) = l.any f) ∧ Below w.heap.size w w' := by
  obtain ⟨oa, oc, rfl, hcell⟩ := hv
  have Hcell := Lib.hid hcell
  have Hf := Lib.hid hf
  clear hcell hf
  go_enter Tryz.func62, Tryz.ntmps62
  go_wp2
  go_loopw [8] (fun x8 wr => ∃ k : Nat, k ≤ l.length ∧ x8 = .int .i64 k ∧ (l.take k).any f = false ∧ Below w.heap.size w wr) (fun x8 _ => l.length - (intOf x8).toNat)
  case atStart => exact ⟨0, by omega, rfl, rfl, Below.refl _ _⟩
  case round =>
    obtain ⟨k, hk, rfl, hno, hbel⟩ := hrel
    have Hno := Lib.hid hno
    clear hno
    by_cases hlt : k < l.length
    · obtain ⟨b1, f1, rfl, hb1, d1, d1'⟩ := Hcell.out k hlt
      have d1 := cell_below hbel hb1 d1
      have d1' := cell_below hbel hb1 d1'
      have HC := Lib.hid (Hf.out l[k] (List.getElem_mem hlt) wr hbel)
      have Hsn := Lib.hid (anyT_snoc l f k hlt)
      have Hhit := Lib.hid (anyT_hit l f k hlt)
      have Hbel := Lib.hid hbel
      clear hbel
      generalize l[k] = x at *
      generalize f x = fx at *
      obtain ⟨x, q⟩ := x
      simp only at d1 d1' HC
      have hk1 : (k : Int) < (l.length : Int) := by omega
      cases fx
      · clear Hhit
        go_wp2_with (go_at_call 38; refine HC.out.mono ?_; rintro e w3 ⟨rfl, hb2⟩)
        go_roundw
        case rel => exact ⟨k + 1, by omega, by go_num, by rw [Hsn.out, Hno.out]; rfl, step_call Hbel.out hb2⟩
        case measure => simp [intOf]; omega
      · have Hh := Lib.hid (Hhit.out rfl)
        clear Hhit
        go_wp2_with (go_at_call 38; refine HC.out.mono ?_; rintro e w3 ⟨rfl, hb2⟩)
        go_ret
        exact ⟨⟨k, rfl, by omega, by omega, by rw [Hh.out]; simp⟩, step_call Hbel.out hb2⟩
    · obtain rfl : k = l.length := by omega
      have Hno' : Hid (l.any f = false) := Lib.hid (by have := Hno.out; rwa [List.take_of_length_le (Nat.le_refl _)] at this)
      go_wp2
      go_ret
      exact ⟨⟨-1, rfl, by omega, by omega, by rw [Hno'.out]; rfl⟩, hbel⟩
set_option maxRecDepth 100000 in
set_option maxHeartbeats 1600000 in
theorem contains_pref (v : Value) (l : Tks) (f : Tx × Nat → Bool) (ba : Nat) (hn : l.length ≤ 9223372036854775807) (w : World) (hv : Toks w v l)
    (hf : ∀ x ∈ l, ∀ w', Below w.heap.size w w' → Calls Tryz.prog 38 #[.agg #[.string (B x.1), .int .i64 (x.2 : Nat)], .pointer (some ⟨ba, 0, none⟩)] w' fun e w'' => e = .returned (.bool (f x)) ∧ Below w'.heap.size w' w'') :
    Calls Tryz.prog 37 #[v, .func (.func 38) #[] #[.pointer (some ⟨ba, 0, none⟩)]] w fun e w' => e = .returned (.bool (l.any f)) ∧ Below w.heap.size w w' := by
  have H := Lib.hid (index_pref v l f ba hn w hv hf)
  clear hv hf
  generalize l.any f = al at *
  go_enter Tryz.func37, Tryz.ntmps37
  go_wp2_with fail
  refine H.out.mono ?_
  rintro e w1 ⟨⟨z, rfl, hz1, hz2, hz⟩, hb1⟩
  by_cases h0 : 0 ≤ z
  · have Hz : Hid (al = true) := Lib.hid (by rw [← hz]; exact decide_eq_true h0)
    clear hz
    go_wp2
    go_ret
    exact ⟨by rw [Hz.out]; first | rfl | simp [h0], hb1⟩
  · have Hz : Hid (al = false) := Lib.hid (by rw [← hz]; exact decide_eq_false h0)
    clear hz
    have h0' : z < 0 := by omega
    go_wp2
    go_ret
    exact ⟨by rw [Hz.out]; first | rfl | simp [h0], hb1⟩
end Go.Proofs.YtlfhgmclnapmjaaGreatDoor
namespace Go.Proofs.YtlfhgmclnapmjaaGreatDoor
open Go.RowKit Go.Utf Go.Qry
attribute [local go_sem] Oper.semAt_some

def QMat (m : Nat) (l : Tks) (vl : Value) : Prop := ∀ (q : Qy) (vm vs vn : Value) (w : World), QVal w m q vm vs vn → shortB q = true → Toks w vl l → Tabs w → Calls Tryz.prog 17 #[qV q vm vs vn, vl] w fun e w' => e = .returned (.bool (matB l q)) ∧ Below w.heap.size w w'
set_option maxRecDepth 100000 in
set_option maxHeartbeats 1600000 in
theorem mat_clos1 (u : Qy) (um us un vl : Value) (mu : Bool) (lb : Nat) (w : World) (hM : ∀ w', Below w.heap.size w w' → Calls Tryz.prog 17 #[qV u um us un, vl] w' fun e w'' => e = .returned (.bool mu) ∧ Below w'.heap.size w' w'') (h1 : w.cell? ⟨lb, 0, none⟩ = some vl) :
    Calls Tryz.prog 34 #[qV u um us un, .pointer (some ⟨lb, 0, none⟩)] w fun e w' => e = .returned (.bool mu) ∧ Below w.heap.size w w' := by
  have H := Lib.hid hM
  obtain ⟨b0, b1, b2, b3, b4⟩ := boxedQ w u um us un 24
  have k1 := cell_alloc (.cells #[.int .i64 u.kind, .string (B u.text), um, us, un] 24) h1
  clear hM h1
  unfold qV at H
  show Calls Tryz.prog 34 #[.agg #[.int .i64 u.kind, .string (B u.text), um, us, un], .pointer (some ⟨lb, 0, none⟩)] w _
  go_enter Tryz.func34, Tryz.ntmps34
  go_wp2_with fail
  refine (H.out _ (step_new (Below.refl _ _) _)).mono ?_
  rintro e w1 ⟨rfl, hb1⟩
  have B1 := Lib.hid (step_call (step_new (Below.refl w.heap.size w) _) hb1)
  clear hb1
  go_wp2
  go_ret
  exact ⟨rfl, B1.out⟩
set_option maxRecDepth 100000 in
set_option maxHeartbeats 1600000 in
theorem mat_clos3 (u : Qy) (um us un vl : Value) (mu : Bool) (lb mb : Nat) (w : World) (hM : ∀ w', Below w.heap.size w w' → Calls Tryz.prog 17 #[qV u um us un, vl] w' fun e w'' => e = .returned (.bool mu) ∧ Below w'.heap.size w' w'') (h1 : w.cell? ⟨lb, 0, none⟩ = some vl) (h2 : w.cell? ⟨mb, 0, none⟩ = some (.func (.func 34) #[] #[.pointer (some ⟨lb, 0, none⟩)])) :
    Calls Tryz.prog 41 #[qV u um us un, .pointer (some ⟨mb, 0, none⟩)] w fun e w' => e = .returned (.bool (!mu)) ∧ Below w.heap.size w w' := by
  have H := Lib.hid (mat_clos1 u um us un vl mu lb (w.alloc (.cells #[.int .i64 u.kind, .string (B u.text), um, us, un] 24)) (fun w' hb => hM w' ((step_new (Below.refl w.heap.size w) _).trans (hb.mono (by simp)))) (cell_alloc _ h1))
  obtain ⟨b0, b1, b2, b3, b4⟩ := boxedQ w u um us un 24
  have k2 := cell_alloc (.cells #[.int .i64 u.kind, .string (B u.text), um, us, un] 24) h2
  clear hM h1 h2
  unfold qV at H
  show Calls Tryz.prog 41 #[.agg #[.int .i64 u.kind, .string (B u.text), um, us, un], .pointer (some ⟨mb, 0, none⟩)] w _
  go_enter Tryz.func41, Tryz.ntmps41
  cases mu
  all_goals
    go_wp2_with (go_at_call 34; refine H.out.mono ?_; rintro e w1 ⟨rfl, hb1⟩)
    go_ret
    exact ⟨rfl, step_call (step_new (Below.refl w.heap.size w) _) hb1⟩
set_option maxRecDepth 100000 in
set_option maxHeartbeats 1600000 in
theorem mat_clos2 (x : Tx) (p : Nat) (s : Tx) (sb : Nat) (w : World) (h1 : w.cell? ⟨sb, 0, none⟩ = some (.string (B s))) :
    Calls Tryz.prog 38 #[.agg #[.string (B x), .int .i64 (p : Nat)], .pointer (some ⟨sb, 0, none⟩)] w fun e w' => e = .returned (.bool (s.isPrefixOf x)) ∧ Below w.heap.size w w' := by
  have hb0 := step_new (Below.refl w.heap.size w) (.cells #[.string (B x), .int .i64 (p : Nat)] 44)
  have Hb0 := Lib.hid hb0
  have g0 := heap_alloc_new w (.cells #[.string (B x), .int .i64 (p : Nat)] 44)
  have k0 : (w.alloc (.cells #[.string (B x), .int .i64 (p : Nat)] 44)).cell? ⟨w.heap.size, 0, none⟩ = some (.string (B x)) := by rw [Lib.cell_of_heap g0]; rfl
  have k1 := cell_alloc (.cells #[.string (B x), .int .i64 (p : Nat)] 44) h1
  have H := has_prefix (B x) (B s) (w.alloc (.cells #[.string (B x), .int .i64 (p : Nat)] 44))
  rw [L_B, L_B] at H
  have H := Lib.hid H
  clear hb0 g0 h1
  generalize s.isPrefixOf x = c at *
  go_enter Tryz.func38, Tryz.ntmps38
  go_wp2_with fail
  refine H.out.mono ?_
  rintro e w1 ⟨rfl, hb1⟩
  have B1 := Lib.hid (step_call Hb0.out hb1)
  clear hb1
  go_wp2
  go_ret
  exact ⟨rfl, B1.out⟩
end Go.Proofs.YtlfhgmclnapmjaaGreatDoor
namespace Go.Proofs.YtlfhgmclnapmjaaGreatDoor
open Go.RowKit Go.Utf Go.Qry
attribute [local go_sem] Oper.semAt_some

theorem any_not (a : List Qy) (f : Qy → Bool) : a.all f = !(a.any fun u => !(f u)) := by
  rw [Bool.eq_iff_iff]
  simp
theorem boolM_any (l : Tks) (a b c : List Qy) : boolM l a b c = ((!(a.any fun u => !(matB l u)) && !c.any (matB l)) && (decide (0 < a.length) || (decide (b.length = 0) || b.any (matB l)))) := by
  unfold boolM; rw [any_not]
theorem matq_two (l : Tks) (q : Qy) (h : q.kind = 2) : matB l q = (decide (0 < (phraseL q.text).length) && standB ((phraseL q.text).take 1) l) := by
  rw [matB_eq, if_neg (by omega), if_pos h]
  congr 1
  rw [Bool.eq_iff_iff, decide_eq_true_eq, decide_eq_true_eq, List.length_pos_iff]
theorem matq_three (l : Tks) (q : Qy) (h : q.kind = 3) : matB l q = (decide (0 < (phraseL q.text).length) && standB (phraseL q.text) l) := by
  rw [matB_eq, if_neg (by omega), if_neg (by omega), if_pos h]
  congr 1
  rw [Bool.eq_iff_iff, decide_eq_true_eq, decide_eq_true_eq, List.length_pos_iff]
theorem matq_four (l : Tks) (q : Qy) (h : q.kind = 4) : matB l q = (decide (foldL q.text ≠ []) && l.any fun t => (foldL q.text).isPrefixOf t.1) := by
  rw [matB_eq, if_neg (by omega), if_neg (by omega), if_neg (by omega), if_pos h]; rfl
theorem own_take1 {w : World} {base : Nat} {oa : Option Addr} {c : Nat} {p : Tks} (h : w.ownsRow base 44 2 (.slice oa p.length c) p.length (tokCells p)) : (oa = none → p.length = 0 ∧ c = 0) ∧ p.length ≤ c ∧ (0 < p.length → ∃ g, oa = some ⟨g, 0, none⟩) := by
  rcases h.2 with ⟨e, e0⟩ | ⟨g, cap, cur, e, hg, hh, h1, h2, h3, h4⟩
  · simp only [Value.slice.injEq] at e
    refine ⟨fun _ => ⟨e0, e.2.2⟩, by omega, fun h => by omega⟩
  · simp only [Value.slice.injEq] at e
    refine ⟨fun h => (by rw [e.1] at h; cases h), by omega, fun _ => ⟨g, e.1⟩⟩
set_option maxRecDepth 100000 in
set_option maxHeartbeats 3200000 in
theorem query_Matches (l : Tks) (vl : Value) (hlb : ∀ x ∈ l, x.2 ≤ 1000000) (hnl : l.length ≤ 1000000) (n : Nat) : QMat n l vl := by
  induction n using Nat.strongRecOn with
  | _ n ih =>
    intro q vm vs vn w h hs hl hT
    have ht := short_text hs
    have hl0 := hl
    obtain ⟨la, lc, rfl, -⟩ := hl0
    obtain ⟨r1, r2, r3⟩ := short_lists hs
    obtain ⟨hlm, r1⟩ := shortR_mem r1
    obtain ⟨hls, r2⟩ := shortR_mem r2
    obtain ⟨hln, r3⟩ := shortR_mem r3
    obtain ⟨om, cm, rfl, -, -⟩ := h.must.form
    obtain ⟨os, cs, rfl, -, -⟩ := h.should.form
    obtain ⟨on, cn, rfl, -, -⟩ := h.nots.form
    obtain ⟨c0, c1, c2, c3, c4⟩ := boxedQ w q (.slice om q.must.length cm) (.slice os q.should.length cs) (.slice on q.nots.length cn) 24
    have hb0 := step_new (step_new (step_new (Below.refl w.heap.size w) (.cells #[.int .i64 q.kind, .string (B q.text), .slice om q.must.length cm, .slice os q.should.length cs, .slice on q.nots.length cn] 24)) (.cells #[.slice la l.length lc] 29)) (.cells #[.func (.func 34) #[] #[.pointer (some ⟨w.heap.size + 1, 0, none⟩)]] 26)
    have Hb0 := Lib.hid hb0
    have g1 := heap_alloc_new (w.alloc (.cells #[.int .i64 q.kind, .string (B q.text), .slice om q.must.length cm, .slice os q.should.length cs, .slice on q.nots.length cn] 24)) (.cells #[.slice la l.length lc] 29)
    have g2 := heap_alloc_new ((w.alloc (.cells #[.int .i64 q.kind, .string (B q.text), .slice om q.must.length cm, .slice os q.should.length cs, .slice on q.nots.length cn] 24)).alloc (.cells #[.slice la l.length lc] 29)) (.cells #[.func (.func 34) #[] #[.pointer (some ⟨w.heap.size + 1, 0, none⟩)]] 26)
    rw [World.size_alloc] at g1
    rw [World.size_alloc, World.size_alloc] at g2
    have a0 := cell_alloc (.cells #[.func (.func 34) #[] #[.pointer (some ⟨w.heap.size + 1, 0, none⟩)]] 26) (cell_alloc (.cells #[.slice la l.length lc] 29) c0)
    have a1 := cell_alloc (.cells #[.func (.func 34) #[] #[.pointer (some ⟨w.heap.size + 1, 0, none⟩)]] 26) (cell_alloc (.cells #[.slice la l.length lc] 29) c1)
    have a2 := cell_alloc (.cells #[.func (.func 34) #[] #[.pointer (some ⟨w.heap.size + 1, 0, none⟩)]] 26) (cell_alloc (.cells #[.slice la l.length lc] 29) c2)
    have a3 := cell_alloc (.cells #[.func (.func 34) #[] #[.pointer (some ⟨w.heap.size + 1, 0, none⟩)]] 26) (cell_alloc (.cells #[.slice la l.length lc] 29) c3)
    have a4 := cell_alloc (.cells #[.func (.func 34) #[] #[.pointer (some ⟨w.heap.size + 1, 0, none⟩)]] 26) (cell_alloc (.cells #[.slice la l.length lc] 29) c4)
    have kl : (((w.alloc (.cells #[.int .i64 q.kind, .string (B q.text), .slice om q.must.length cm, .slice os q.should.length cs, .slice on q.nots.length cn] 24)).alloc (.cells #[.slice la l.length lc] 29)).alloc (.cells #[.func (.func 34) #[] #[.pointer (some ⟨w.heap.size + 1, 0, none⟩)]] 26)).cell? ⟨w.heap.size + 1, 0, none⟩ = some (.slice la l.length lc) := cell_alloc _ (by rw [Lib.cell_of_heap g1]; rfl)
    have km : (((w.alloc (.cells #[.int .i64 q.kind, .string (B q.text), .slice om q.must.length cm, .slice os q.should.length cs, .slice on q.nots.length cn] 24)).alloc (.cells #[.slice la l.length lc] 29)).alloc (.cells #[.func (.func 34) #[] #[.pointer (some ⟨w.heap.size + 1, 0, none⟩)]] 26)).cell? ⟨w.heap.size + 1 + 1, 0, none⟩ = some (.func (.func 34) #[] #[.pointer (some ⟨w.heap.size + 1, 0, none⟩)]) := by rw [Lib.cell_of_heap g2]; rfl
    generalize hW3 : ((w.alloc (.cells #[.int .i64 q.kind, .string (B q.text), .slice om q.must.length cm, .slice os q.should.length cs, .slice on q.nots.length cn] 24)).alloc (.cells #[.slice la l.length lc] 29)).alloc (.cells #[.func (.func 34) #[] #[.pointer (some ⟨w.heap.size + 1, 0, none⟩)]] 26) = w3 at *
    have HW3 := Lib.hid hW3
    have A0 := Lib.hid a0
    have A1 := Lib.hid a1
    have A2 := Lib.hid a2
    have A3 := Lib.hid a3
    have A4 := Lib.hid a4
    have KL := Lib.hid kl
    have KM := Lib.hid km
    have HP := Lib.hid (fun (w' : World) (hb : Below w.heap.size w w') => query_Phrase q.text (by omega) w' (hT.below hb))
    have HF := fun (w' : World) (hb : Below w.heap.size w w') => utf_Folded (B q.text) (by rw [size_B]; omega) w' (hT.below hb)
    rw [L_B] at HF
    have HF := Lib.hid HF
    have HSt := Lib.hid (fun (vp : Value) (p : Tks) (h1 : ∀ x ∈ p, x.2 ≤ 1000000) (h2 : p.length ≤ 1000000) (w' : World) (hb : Below w.heap.size w w') (hp : Toks w' vp p) => query_stands vp (.slice la l.length lc) p l h1 hlb (by omega) (by omega) w' hp (hl.below hb))
    have HPf := Lib.hid (fun (s : Tx) (ba : Nat) (w' : World) (hb : Below w.heap.size w w') (hc : w'.cell? ⟨ba, 0, none⟩ = some (.string (B s))) => contains_pref (.slice la l.length lc) l (fun t => s.isPrefixOf t.1) ba (by omega) w' (hl.below hb) (fun x _ w'' hb2 => mat_clos2 x.1 x.2 s ba w'' (cell_call hb2 hc)))
    have HCm := Lib.hid (fun (w' : World) (hb : Below w.heap.size w w') (h1 : w'.cell? ⟨w.heap.size + 1, 0, none⟩ = some (.slice la l.length lc)) (h2 : w'.cell? ⟨w.heap.size + 1 + 1, 0, none⟩ = some (.func (.func 34) #[] #[.pointer (some ⟨w.heap.size + 1, 0, none⟩)])) => contains_nomat n q.must (fun u => !(matB l u)) om cm (w.heap.size + 1 + 1) w' (h.must.below hb) (fun u hu m hm um us un w'' hb2 hv => mat_clos3 u um us un (.slice la l.length lc) (matB l u) (w.heap.size + 1) (w.heap.size + 1 + 1) w'' (fun w4 hb4 => ih m hm u um us un w4 (hv.below hb4) (r1 u hu) (((hl.below hb).below hb2).below hb4) (((hT.below hb).below hb2).below hb4)) (cell_call hb2 h1) (cell_call hb2 h2)))
    have HCs := Lib.hid (fun (w' : World) (hb : Below w.heap.size w w') (h1 : w'.cell? ⟨w.heap.size + 1, 0, none⟩ = some (.slice la l.length lc)) => contains_mat n q.should (matB l) os cs (w.heap.size + 1) w' (h.should.below hb) (fun u hu m hm um us un w'' hb2 hv => mat_clos1 u um us un (.slice la l.length lc) (matB l u) (w.heap.size + 1) w'' (fun w4 hb4 => ih m hm u um us un w4 (hv.below hb4) (r2 u hu) (((hl.below hb).below hb2).below hb4) (((hT.below hb).below hb2).below hb4)) (cell_call hb2 h1)))
    have HCn := Lib.hid (fun (w' : World) (hb : Below w.heap.size w w') (h1 : w'.cell? ⟨w.heap.size + 1, 0, none⟩ = some (.slice la l.length lc)) => contains_mat n q.nots (matB l) on cn (w.heap.size + 1) w' (h.nots.below hb) (fun u hu m hm um us un w'' hb2 hv => mat_clos1 u um us un (.slice la l.length lc) (matB l u) (w.heap.size + 1) w'' (fun w4 hb4 => ih m hm u um us un w4 (hv.below hb4) (r3 u hu) (((hl.below hb).below hb2).below hb4) (((hT.below hb).below hb2).below hb4)) (cell_call hb2 h1)))
    have Hpp := Lib.hid (phrase_pos q.text (by omega))
    have hpl := phrase_len q.text (by omega)
    have M2 := Lib.hid (matq_two l q)
    have M3 := Lib.hid (matq_three l q)
    have M4 := Lib.hid (matq_four l q)
    have M5 := Lib.hid (fun h => (mat_five l q h).trans (boolM_any l q.must q.should q.nots))
    have M1 := Lib.hid (mat_one l q)
    have M0 := Lib.hid (mat_none l q)
    show Calls Tryz.prog 17 #[.agg #[.int .i64 q.kind, .string (B q.text), .slice om q.must.length cm, .slice os q.should.length cs, .slice on q.nots.length cn], .slice la l.length lc] w _
    clear ih h hs hl hb0 ht hlb hT c0 c1 c2 c3 c4 a0 a1 a2 a3 a4 kl km g1 g2 hW3 r1 r2 r3
    generalize matB l q = mm at *
    generalize q.kind = K at *
    generalize q.text = t at *
    generalize (q.must.any fun u => !(matB l u)) = Am at *
    generalize q.nots.any (matB l) = Cn at *
    generalize q.should.any (matB l) = Bs at *
    generalize q.must.length = nm at *
    generalize q.should.length = ns at *
    generalize q.nots.length = nn at *
    go_enter Tryz.func17, Tryz.ntmps17
    go_wp2_with fail
    rw [HW3.out]
    refine (HP.out _ Hb0.out).mono ?_
    rintro e w4 ⟨v, rfl, hb4, hown⟩
    have B4 := Lib.hid (step_call Hb0.out hb4)
    have a0 := cell_call hb4 A0.out
    have a1 := cell_call hb4 A1.out
    have a2 := cell_call hb4 A2.out
    have a3 := cell_call hb4 A3.out
    have a4 := cell_call hb4 A4.out
    have kl := cell_call hb4 KL.out
    have km := cell_call hb4 KM.out
    clear hb4 HW3
    rcases (show K = 1 ∨ K = 2 ∨ K = 3 ∨ K = 4 ∨ K = 5 ∨ (K ≠ 1 ∧ K ≠ 2 ∧ K ≠ 3 ∧ K ≠ 4 ∧ K ≠ 5) by omega) with rfl | rfl | rfl | rfl | rfl | ⟨k1, k2, k3, k4, k5⟩
    · have Hm := Lib.hid (M1.out rfl)
      clear a1 a2 a3 a4 kl km
      go_wp2
      go_ret
      exact ⟨by rw [Hm.out]; rfl, B4.out⟩
    · have Hy := Lib.hid (M2.out rfl)
      generalize phraseL t = p at *
      obtain ⟨oa, oc, rfl⟩ := own_form hown
      have Ht := own_toks hown
      obtain ⟨t1, t2, t3⟩ := own_take1 hown
      have hb1 : ∀ x ∈ p.take 1, x.2 ≤ 1000000 := fun x hx => Hpp.out x (List.mem_of_mem_take hx)
      have HC := Lib.hid (fun (h0 : 0 < p.length) (w' : World) (hb : Below w4.heap.size w4 w') => HSt.out (.slice oa 1 oc) (p.take 1) hb1 (by rw [List.length_take]; omega) w' (step_call B4.out hb) ((Ht.take 1 h0).below hb))
      clear hb1 Ht hown a1 a2 a3 a4 km
      by_cases h0 : 0 < p.length
      · obtain ⟨g, rfl⟩ := t3 h0
        have HC0 := Lib.hid (HC.out h0)
        rw [decide_eq_true h0, Bool.true_and] at Hy
        rw [decide_eq_true h0]
        have hmin : min 1 p.length = 1 := by omega
        have hmini : min (1 : Int) (p.length : Int) = 1 := by omega
        have hci : 1 ≤ oc := by omega
        clear t1 t3 HC M0 M1 M2 M3 M4 M5 HP HCs HCn HCm HF HPf HSt Hpp A0 A1 A2 A3 A4 KL KM Hb0
        generalize standB (p.take 1) l = st at *
        generalize p.length = P at *
        cases st
        all_goals
          go_wp2_with (go_at_call 35; refine (HC0.out _ (by first | exact Below.refl _ _ | exact below_drew _)).mono ?_; rintro e w5 ⟨rfl, hb5⟩)
          go_ret
          exact ⟨by rw [Hy.out]; rfl, step_call B4.out hb5⟩
      · obtain ⟨rfl⟩ : p = [] := List.eq_nil_of_length_eq_zero (by omega)
        have Hn : Hid (mm = false) := Lib.hid (by rw [Hy.out]; rfl)
        clear HC Hy t1 t3 M0 M1 M2 M3 M4 M5 HP HCs HCn HCm HF HPf HSt Hpp A0 A1 A2 A3 A4 KL KM Hb0 h0
        go_wp2
        go_ret
        exact ⟨by rw [Hn.out]; rfl, B4.out⟩
    · have Hy := Lib.hid (M3.out rfl)
      generalize phraseL t = p at *
      have Ht := own_toks hown
      have HC0 := Lib.hid (fun (w' : World) (hb : Below w4.heap.size w4 w') => HSt.out v p Hpp.out hpl w' (step_call B4.out hb) (Ht.below hb))
      clear Ht hown a1 a2 a3 a4 km M0 M1 M2 M3 M4 M5 HP HCs HCn HCm HF HPf HSt Hpp A0 A1 A2 A3 A4 KL KM Hb0
      by_cases h0 : 0 < p.length
      · rw [decide_eq_true h0, Bool.true_and] at Hy
        rw [decide_eq_true h0]
        generalize standB p l = st at *
        generalize p.length = P at *
        cases st
        all_goals
          go_wp2_with (go_at_call 35; refine (HC0.out _ (by first | exact Below.refl _ _ | exact below_drew _)).mono ?_; rintro e w5 ⟨rfl, hb5⟩)
          go_ret
          exact ⟨by rw [Hy.out]; rfl, step_call B4.out hb5⟩
      · rw [decide_eq_false h0, Bool.false_and] at Hy
        rw [decide_eq_false h0]
        clear HC0 h0 hpl
        go_wp2
        go_ret
        exact ⟨by rw [Hy.out]; rfl, B4.out⟩
    · have Hy := Lib.hid (M4.out rfl)
      generalize foldL t = f at *
      have HPf0 := Lib.hid (HPf.out f)
      clear hown a2 a3 a4 km M0 M1 M2 M3 M4 M5 HP HCs HCn HCm HPf HSt Hpp A0 A1 A2 A3 A4 KL KM Hb0 hpl
      go_wp2_with fail
      refine (HF.out _ B4.out).mono ?_
      rintro e w5 ⟨rfl, hb5⟩
      have B5 := Lib.hid (step_call B4.out hb5)
      have hb6 := step_new B5.out (.cells #[.string (B f)] 9)
      have B6 := Lib.hid hb6
      have g6 := heap_alloc_new w5 (.cells #[.string (B f)] 9)
      have k6 : (w5.alloc (.cells #[.string (B f)] 9)).cell? ⟨w5.heap.size, 0, none⟩ = some (.string (B f)) := by rw [Lib.cell_of_heap g6]; rfl
      have HC0 := Lib.hid (HPf0.out w5.heap.size _ hb6 k6)
      have kl := cell_alloc (.cells #[.string (B f)] 9) (cell_call hb5 kl)
      clear hb5 hb6 g6 a0 a1 HPf0 HF
      by_cases h0 : f = []
      · have hne : ((B f).toList != []) = false := by rw [toList_B, h0]; rfl
        have hem : (B f).toList.isEmpty = true := by rw [toList_B, h0]; rfl
        rw [decide_eq_false (by simp [h0]), Bool.false_and] at Hy
        clear h0 HC0
        go_wp2
        go_ret
        exact ⟨by rw [Hy.out]; rfl, B6.out⟩
      · have hne : ((B f).toList != []) = true := by rw [toList_B, bne_iff_ne]; exact h0
        have hem : (B f).toList.isEmpty = false := by rw [toList_B]; cases he : f with | nil => exact absurd he h0 | cons => rfl
        rw [decide_eq_true h0, Bool.true_and] at Hy
        clear h0
        generalize (l.any fun t => f.isPrefixOf t.1) = st at *
        cases st
        all_goals
          go_wp2_with (go_at_call 37; refine HC0.out.mono ?_; rintro e w7 ⟨rfl, hb7⟩)
          go_ret
          exact ⟨by rw [Hy.out]; rfl, step_call B6.out hb7⟩
    · have Hy := Lib.hid (M5.out rfl)
      have HA := Lib.hid (HCm.out w4 B4.out kl km)
      have HBn := Lib.hid (fun (w' : World) (hb : Below w4.heap.size w4 w') => HCn.out w' (step_call B4.out hb) (cell_call hb kl))
      have HBs := Lib.hid (fun (w' : World) (hb : Below w4.heap.size w4 w') => HCs.out w' (step_call B4.out hb) (cell_call hb kl))
      have KM4 := Lib.hid km
      clear hown a1 M0 M1 M2 M3 M4 M5 HP HCs HCn HCm HF HPf HSt Hpp A0 A1 A2 A3 A4 KL KM Hb0 hpl kl km
      have A2 := Lib.hid a2
      have A3 := Lib.hid a3
      have A4 := Lib.hid a4
      clear a3 a4
      cases Am
      case true =>
        clear HBn HBs
        go_wp2_with (go_at_call 40; refine HA.out.mono ?_; rintro e w5 ⟨rfl, hb5⟩)
        go_ret
        exact ⟨by rw [Hy.out]; rfl, step_call B4.out hb5⟩
      case false =>
        go_wp2_with fail
        refine HA.out.mono ?_
        rintro e w5 ⟨rfl, hb5⟩
        have B5 := Lib.hid (step_call B4.out hb5)
        have a2 := cell_call hb5 A2.out
        have a4 := cell_call hb5 A4.out
        have km := cell_call hb5 KM4.out
        have HN := Lib.hid (HBn.out w5 hb5)
        have HBs := Lib.hid (fun (w' : World) (hb : Below w5.heap.size w5 w') => HBs.out w' (step_call hb5 hb))
        have A2 := Lib.hid a2
        have A3 := Lib.hid (cell_call hb5 A3.out)
        have KM5 := Lib.hid km
        clear hb5 HBn HA A4
        go_wp2_with fail
        refine HN.out.mono ?_
        rintro e w6 ⟨rfl, hb6⟩
        have B6 := Lib.hid (step_call B5.out hb6)
        have a2 := cell_call hb6 A2.out
        have a3 := cell_call hb6 A3.out
        have km := cell_call hb6 KM5.out
        have HS0 := Lib.hid (HBs.out w6 hb6)
        clear hb6 HN HBs A2 A3 KM4 KM5 a4
        cases Cn
        case true =>
          clear HS0
          go_wp2
          go_ret
          exact ⟨by rw [Hy.out]; rfl, B6.out⟩
        case false =>
          by_cases h1 : 0 < nm
          · have h1i : (0 : Int) < (nm : Int) := by omega
            rw [decide_eq_true h1] at Hy
            clear HS0
            go_wp2
            go_ret
            exact ⟨by rw [Hy.out]; rfl, B6.out⟩
          · have h1i : ¬ (0 : Int) < (nm : Int) := by omega
            rw [decide_eq_false h1] at Hy
            by_cases h2 : ns = 0
            · have h2i : ((ns : Int) == 0) = true := by simp [h2]
              rw [decide_eq_true h2] at Hy
              clear HS0 h2
              go_wp2
              go_ret
              exact ⟨by rw [Hy.out]; rfl, B6.out⟩
            · have h2i : ((ns : Int) == 0) = false := by rw [beq_eq_false_iff_ne]; omega
              rw [decide_eq_false h2] at Hy
              clear h2
              cases Bs
              all_goals
                go_wp2_with (go_at_call 40; refine HS0.out.mono ?_; rintro e w7 ⟨rfl, hb7⟩)
                go_ret
                exact ⟨by rw [Hy.out]; rfl, step_call B6.out hb7⟩
    · have Hm := Lib.hid (M0.out k1 k2 k3 k4 k5)
      have q1 : (K == 1) = false := by rw [beq_eq_false_iff_ne]; omega
      have q2 : (K == 2) = false := by rw [beq_eq_false_iff_ne]; omega
      have q3 : (K == 3) = false := by rw [beq_eq_false_iff_ne]; omega
      have q4 : (K == 4) = false := by rw [beq_eq_false_iff_ne]; omega
      have q5 : (K == 5) = false := by rw [beq_eq_false_iff_ne]; omega
      clear k1 k2 k3 k4 k5 a1 a2 a3 a4 kl km hown M0 M1 M2 M3 M4 M5 HP HCs HCn HCm HF HPf HSt Hpp A0 A1 A2 A3 A4 KL KM Hb0 hpl
      go_wp2
      go_ret
      exact ⟨by rw [Hm.out]; rfl, B4.out⟩
end Go.Proofs.YtlfhgmclnapmjaaGreatDoor
