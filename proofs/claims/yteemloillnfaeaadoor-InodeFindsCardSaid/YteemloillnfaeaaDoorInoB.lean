/- Chapter 8: whether a file has the blocks that it needs: inode's right, codexref8.file. Conditions: the bounds are those of a device; what the file holds fits an int. -/
import Derived.Test.YteemloillnfaeaaDoorInoMem
import Derived.Test.YteemloillnfaeaaDoorInoLaws
namespace Go.Proofs.YteemloillnfaeaaDoor
open Go.RowKit Go.Ino

theorem sumC_snoc (l : List Ext) (x : Ext) : sumC (l ++ [x]) = sumC l + x.2 := by simp [sumC]
theorem sumC_bound {first blocks : Int} (h0 : 0 ≤ first) (hb : blocks ≤ 4096) : ∀ (l : List Ext), l.all (extB first blocks) = true → 0 ≤ sumC l ∧ sumC l ≤ 4096 * (l.length : Int)
  | [], _ => by simp [sumC]
  | x :: l, h => by
    rw [List.all_cons, Bool.and_eq_true] at h
    have h1 := sumC_bound h0 hb l h.2
    have h2 := (extB_iff _ _ _).1 h.1
    have e : sumC (x :: l) = x.2 + sumC l := by simp [sumC]
    rw [e, List.length_cons]
    omega
theorem fileB_bad {first blocks : Int} {f : Fil} {x : Ext} (hx : x ∈ f.ext) (h : extB first blocks x = false) : fileB first blocks f = false := by
  rw [← Bool.not_eq_true]
  intro h2
  rw [fileB_ext h2 x hx] at h; cases h
theorem fileB_size {first blocks : Int} {f : Fil} (h : f.size < 0 ∨ 2147483647 < f.size ∨ 16 < f.ext.length) : fileB first blocks f = false := by
  rw [← Bool.not_eq_true]
  intro h2
  unfold fileB at h2
  simp only [Bool.and_eq_true, decide_eq_true_eq] at h2
  omega
theorem fileB_end {first blocks : Int} {f : Fil} (h0 : 0 ≤ f.size) (h1 : f.size ≤ 2147483647) (h2 : f.ext.length ≤ 16) (h3 : f.ext.all (extB first blocks) = true) : fileB first blocks f = decide (sumC f.ext = (f.size + 255) / 256) := by
  unfold fileB
  rw [decide_eq_true h0, decide_eq_true h1, decide_eq_true h2, h3]; rfl
set_option maxRecDepth 100000 in
set_option maxHeartbeats 3200000 in
theorem inode_right (f : Fil) (ve : Value) (first blocks : Int) (h0 : 0 ≤ first) (h1 : first ≤ 9223372036854775807) (hb : blocks ≤ 4096) (hb2 : -9223372036854775808 ≤ blocks) (hfit : FitF f) (w : World) (hx : Exts w ve f.ext) :
    Calls Tryd.prog 39 #[.agg #[.string (B f.name), .bool f.shut, .int .i64 f.size, ve], .int .i64 first, .int .i64 blocks] w fun e w' => e = .returned (.bool (fileB first blocks f)) ∧ Below w.heap.size w w' := by
  obtain ⟨_, f1, f2, f3, f4⟩ := hfit
  obtain ⟨oa, oc, rfl, _, hcell⟩ := hx
  have Hcell := Lib.hid hcell
  have F4 := Lib.hid f4
  have Hbel0 : Hid (Below w.heap.size w (w.alloc (.cells #[.string (B f.name), .bool f.shut, .int .i64 f.size, .slice oa f.ext.length oc] 44))) := Lib.hid (step_new (Below.refl _ _) _)
  clear hcell f4
  by_cases hs : f.size < 0 ∨ 2147483647 < f.size ∨ 16 < f.ext.length
  · have Hf := Lib.hid (fileB_size (first := first) (blocks := blocks) hs)
    rcases (show f.size < 0 ∨ (¬ f.size < 0 ∧ f.size > 2147483647) ∨ (¬ f.size < 0 ∧ ¬ f.size > 2147483647 ∧ (f.ext.length : Int) > 16) by omega) with k1 | ⟨k1, k2⟩ | ⟨k1, k2, k3⟩
    all_goals
      clear hs
      go_enter Tryd.func39, Tryd.ntmps39
      go_wp2
      go_ret
      exact ⟨by rw [Hf.out]; rfl, Hbel0.out⟩
  · have k1 : ¬ f.size < 0 := by omega
    have k2 : ¬ f.size > 2147483647 := by omega
    have k3 : ¬ (f.ext.length : Int) > 16 := by omega
    have Hend := Lib.hid (fun h => fileB_end (first := first) (blocks := blocks) (f := f) (by omega) (by omega) (by omega) h)
    clear hs
    go_enter Tryd.func39, Tryd.ntmps39
    go_wp2
    go_loopw [7, 27] (fun nv i wr => ∃ k : Nat, k ≤ f.ext.length ∧ i = .int .i64 k ∧ nv = .int .i64 (sumC (f.ext.take k)) ∧ (f.ext.take k).all (extB first blocks) = true ∧ Below (w.heap.size + 1) (w.alloc (.cells #[.string (B f.name), .bool f.shut, .int .i64 f.size, .slice oa f.ext.length oc] 44)) wr) (fun _ i _ => f.ext.length - (intOf i).toNat)
    case atStart => exact ⟨0, by omega, rfl, rfl, rfl, Below.refl _ _⟩
    case round =>
      obtain ⟨k, hk, rfl, rfl, hal, hbel⟩ := hrel
      have hW : (w.alloc (.cells #[.string (B f.name), .bool f.shut, .int .i64 f.size, .slice oa f.ext.length oc] 44)).heap[w.heap.size]? = some (.cells #[.string (B f.name), .bool f.shut, .int .i64 f.size, .slice oa f.ext.length oc] 44 (0, 0)) := heap_alloc_new w _
      have z2 : wr.cell? ⟨w.heap.size, 2, none⟩ = some (.int .i64 f.size) := cell_below hbel (by omega) (by rw [Lib.cell_of_heap hW]; rfl)
      have z3 : wr.cell? ⟨w.heap.size, 3, none⟩ = some (.slice oa f.ext.length oc) := cell_below hbel (by omega) (by rw [Lib.cell_of_heap hW]; rfl)
      have hwz := hbel.size
      rw [World.size_alloc] at hwz
      clear hW
      have Hal := Lib.hid hal
      have Hbel := Lib.hid hbel
      by_cases hlt : k < f.ext.length
      · obtain ⟨b, off, rfl, hbk, c1, c2⟩ := Hcell.out k hlt
        have c1 := cell_below hbel (by omega) (cell_below Hbel0.out hbk c1)
        have c2 := cell_below hbel (by omega) (cell_below Hbel0.out hbk c2)
        have hsb := sumC_bound h0 hb (f.ext.take k) hal
        rw [List.length_take, Nat.min_eq_left hk] at hsb
        have hsum := sumC_snoc (f.ext.take k) f.ext[k]
        rw [← List.take_succ_eq_append_getElem hlt] at hsum
        have Hall : Hid ((f.ext.take (k + 1)).all (extB first blocks) = extB first blocks f.ext[k]) := Lib.hid (by
          rw [List.take_succ_eq_append_getElem hlt, List.all_append, Hal.out]; simp)
        have Hbad : Hid (extB first blocks f.ext[k] = false → fileB first blocks f = false) := Lib.hid (fileB_bad (List.getElem_mem hlt))
        have hxb := F4.out f.ext[k] (List.getElem_mem hlt)
        have hki : (k : Int) < (f.ext.length : Int) := by omega
        have Hsum := Lib.hid hsum
        clear hsum hal hbel
        generalize f.ext[k] = x at *
        generalize sumC (f.ext.take k) = s0 at *
        obtain ⟨x1, x2⟩ := x
        simp only at c1 c2 hxb Hsum
        obtain ⟨y1, y2, y3, y4⟩ := hxb
        have Hx := Lib.hid (extB_iff first blocks (x1, x2))
        simp only at Hx
        rcases (show x2 < 1 ∨ (¬ x2 < 1 ∧ x1 < first) ∨ (¬ x2 < 1 ∧ ¬ x1 < first ∧ x1 ≥ blocks) ∨ (¬ x2 < 1 ∧ ¬ x1 < first ∧ ¬ x1 ≥ blocks ∧ x2 > blocks - x1) ∨ (¬ x2 < 1 ∧ ¬ x1 < first ∧ ¬ x1 ≥ blocks ∧ ¬ x2 > blocks - x1) by omega) with m1 | ⟨m1, m2⟩ | ⟨m1, m2, m3⟩ | ⟨m1, m2, m3, m4⟩ | ⟨m1, m2, m3, m4⟩
        rotate_right
        · have Hg : Hid (extB first blocks (x1, x2) = true) := Lib.hid (Hx.out.2 (by omega))
          go_wp2
          go_roundw
          case rel => exact ⟨k + 1, by omega, by go_num, by rw [Hsum.out], by rw [Hall.out, Hg.out], Hbel.out.alloc (by omega) _⟩
          case measure => simp [intOf]; omega
        all_goals
          have Hf : Hid (fileB first blocks f = false) := Lib.hid (Hbad.out (by
            rw [← Bool.not_eq_true]; intro h; have := Hx.out.1 h; omega))
          go_wp2
          go_ret
          exact ⟨by rw [Hf.out]; rfl, step_call Hbel0.out ((Hbel.out.alloc (by omega) _).mono (by simp))⟩
      · obtain rfl : k = f.ext.length := by omega
        rw [List.take_length] at Hal ⊢
        have hsb := sumC_bound h0 hb f.ext Hal.out
        have Hf := Lib.hid (Hend.out Hal.out)
        clear hal hbel
        have hz : Hid (∀ s1 : Int, s1 = sumC f.ext → fileB first blocks f = decide (s1 = (f.size + 255) / 256)) := Lib.hid (fun s1 h => by rw [h]; exact Hf.out)
        obtain ⟨s1, hs1⟩ : ∃ s1, sumC f.ext = s1 := ⟨_, rfl⟩
        have hz := Lib.hid (hz.out s1 hs1.symm)
        rw [hs1] at hsb ⊢
        clear hs1 Hf
        go_wp2
        go_ret
        refine ⟨?_, step_call Hbel0.out (Hbel.out.mono (by simp))⟩
        rw [hz.out]
        exact congrArg (fun b => Ending.returned (.bool b)) (show (s1 == (f.size + 256 - 1) / 256) = decide (s1 = (f.size + 255) / 256) by rw [Bool.eq_iff_iff, beq_iff_eq, decide_eq_true_eq, show f.size + 256 - 1 = f.size + 255 by omega])
set_option maxRecDepth 100000 in
set_option maxHeartbeats 3200000 in
theorem ref8_file (f : Fil) (ve : Value) (first blocks : Int) (h0 : 0 ≤ first) (h1 : first ≤ 9223372036854775807) (hb : blocks ≤ 4096) (hb2 : -9223372036854775808 ≤ blocks) (hfit : FitF f) (w : World) (hx : Exts w ve f.ext) :
    Calls Tryd.prog 42 #[.agg #[.string (B f.name), .bool f.shut, .int .i64 f.size, ve], .int .i64 first, .int .i64 blocks] w fun e w' => e = .returned (.bool (fileB first blocks f)) ∧ Below w.heap.size w w' := by
  obtain ⟨_, f1, f2, f3, f4⟩ := hfit
  obtain ⟨oa, oc, rfl, _, hcell⟩ := hx
  have Hcell := Lib.hid hcell
  have F4 := Lib.hid f4
  have Hbel0 : Hid (Below w.heap.size w (w.alloc (.cells #[.string (B f.name), .bool f.shut, .int .i64 f.size, .slice oa f.ext.length oc] 58))) := Lib.hid (step_new (Below.refl _ _) _)
  clear hcell f4
  by_cases hs : f.size < 0 ∨ 2147483647 < f.size ∨ 16 < f.ext.length
  · have Hf := Lib.hid (fileB_size (first := first) (blocks := blocks) hs)
    rcases (show f.size < 0 ∨ (¬ f.size < 0 ∧ f.size > 2147483647) ∨ (¬ f.size < 0 ∧ ¬ f.size > 2147483647 ∧ (f.ext.length : Int) > 16) by omega) with k1 | ⟨k1, k2⟩ | ⟨k1, k2, k3⟩
    all_goals
      clear hs
      go_enter Tryd.func42, Tryd.ntmps42
      go_wp2
      go_ret
      exact ⟨by rw [Hf.out]; rfl, Hbel0.out⟩
  · have k1 : ¬ f.size < 0 := by omega
    have k2 : ¬ f.size > 2147483647 := by omega
    have k3 : ¬ (f.ext.length : Int) > 16 := by omega
    have Hend := Lib.hid (fun h => fileB_end (first := first) (blocks := blocks) (f := f) (by omega) (by omega) (by omega) h)
    clear hs
    go_enter Tryd.func42, Tryd.ntmps42
    go_wp2
    go_loopw [7, 8] (fun nv i wr => ∃ k : Nat, k ≤ f.ext.length ∧ i = .int .i64 k ∧ nv = .int .i64 (sumC (f.ext.take k)) ∧ (f.ext.take k).all (extB first blocks) = true ∧ Below (w.heap.size + 1) (w.alloc (.cells #[.string (B f.name), .bool f.shut, .int .i64 f.size, .slice oa f.ext.length oc] 58)) wr) (fun _ i _ => f.ext.length - (intOf i).toNat)
    case atStart => exact ⟨0, by omega, rfl, rfl, rfl, Below.refl _ _⟩
    case round =>
      obtain ⟨k, hk, rfl, rfl, hal, hbel⟩ := hrel
      have hW : (w.alloc (.cells #[.string (B f.name), .bool f.shut, .int .i64 f.size, .slice oa f.ext.length oc] 58)).heap[w.heap.size]? = some (.cells #[.string (B f.name), .bool f.shut, .int .i64 f.size, .slice oa f.ext.length oc] 58 (0, 0)) := heap_alloc_new w _
      have z2 : wr.cell? ⟨w.heap.size, 2, none⟩ = some (.int .i64 f.size) := cell_below hbel (by omega) (by rw [Lib.cell_of_heap hW]; rfl)
      have z3 : wr.cell? ⟨w.heap.size, 3, none⟩ = some (.slice oa f.ext.length oc) := cell_below hbel (by omega) (by rw [Lib.cell_of_heap hW]; rfl)
      have hwz := hbel.size
      rw [World.size_alloc] at hwz
      clear hW
      have Hal := Lib.hid hal
      have Hbel := Lib.hid hbel
      by_cases hlt : k < f.ext.length
      · obtain ⟨b, off, rfl, hbk, c1, c2⟩ := Hcell.out k hlt
        have c1 := cell_below hbel (by omega) (cell_below Hbel0.out hbk c1)
        have c2 := cell_below hbel (by omega) (cell_below Hbel0.out hbk c2)
        have hsb := sumC_bound h0 hb (f.ext.take k) hal
        rw [List.length_take, Nat.min_eq_left hk] at hsb
        have hsum := sumC_snoc (f.ext.take k) f.ext[k]
        rw [← List.take_succ_eq_append_getElem hlt] at hsum
        have Hall : Hid ((f.ext.take (k + 1)).all (extB first blocks) = extB first blocks f.ext[k]) := Lib.hid (by
          rw [List.take_succ_eq_append_getElem hlt, List.all_append, Hal.out]; simp)
        have Hbad : Hid (extB first blocks f.ext[k] = false → fileB first blocks f = false) := Lib.hid (fileB_bad (List.getElem_mem hlt))
        have hxb := F4.out f.ext[k] (List.getElem_mem hlt)
        have hki : (k : Int) < (f.ext.length : Int) := by omega
        have Hsum := Lib.hid hsum
        clear hsum hal hbel
        generalize f.ext[k] = x at *
        generalize sumC (f.ext.take k) = s0 at *
        obtain ⟨x1, x2⟩ := x
        simp only at c1 c2 hxb Hsum
        obtain ⟨y1, y2, y3, y4⟩ := hxb
        have Hx := Lib.hid (extB_iff first blocks (x1, x2))
        simp only at Hx
        rcases (show x2 < 1 ∨ (¬ x2 < 1 ∧ x1 < first) ∨ (¬ x2 < 1 ∧ ¬ x1 < first ∧ x1 ≥ blocks) ∨ (¬ x2 < 1 ∧ ¬ x1 < first ∧ ¬ x1 ≥ blocks ∧ x2 > blocks - x1) ∨ (¬ x2 < 1 ∧ ¬ x1 < first ∧ ¬ x1 ≥ blocks ∧ ¬ x2 > blocks - x1) by omega) with m1 | ⟨m1, m2⟩ | ⟨m1, m2, m3⟩ | ⟨m1, m2, m3, m4⟩ | ⟨m1, m2, m3, m4⟩
        rotate_right
        · have Hg : Hid (extB first blocks (x1, x2) = true) := Lib.hid (Hx.out.2 (by omega))
          go_wp2
          go_roundw
          case rel => exact ⟨k + 1, by omega, by go_num, by rw [Hsum.out], by rw [Hall.out, Hg.out], Hbel.out.alloc (by omega) _⟩
          case measure => simp [intOf]; omega
        all_goals
          have Hf : Hid (fileB first blocks f = false) := Lib.hid (Hbad.out (by
            rw [← Bool.not_eq_true]; intro h; have := Hx.out.1 h; omega))
          go_wp2
          go_ret
          exact ⟨by rw [Hf.out]; rfl, step_call Hbel0.out ((Hbel.out.alloc (by omega) _).mono (by simp))⟩
      · obtain rfl : k = f.ext.length := by omega
        rw [List.take_length] at Hal ⊢
        have hsb := sumC_bound h0 hb f.ext Hal.out
        have Hf := Lib.hid (Hend.out Hal.out)
        clear hal hbel
        have hz : Hid (∀ s1 : Int, s1 = sumC f.ext → fileB first blocks f = decide (s1 = (f.size + 255) / 256)) := Lib.hid (fun s1 h => by rw [h]; exact Hf.out)
        obtain ⟨s1, hs1⟩ : ∃ s1, sumC f.ext = s1 := ⟨_, rfl⟩
        have hz := Lib.hid (hz.out s1 hs1.symm)
        rw [hs1] at hsb ⊢
        clear hs1 Hf
        by_cases hm : 0 < f.size % 256
        · go_wp2
          go_ret
          refine ⟨?_, step_call Hbel0.out (Hbel.out.mono (by simp))⟩
          rw [hz.out]
          exact congrArg (fun b => Ending.returned (.bool b)) (show (s1 == f.size / 256 + 1) = decide (s1 = (f.size + 255) / 256) by rw [Bool.eq_iff_iff, beq_iff_eq, decide_eq_true_eq]; omega)
        · go_wp2
          go_ret
          refine ⟨?_, step_call Hbel0.out (Hbel.out.mono (by simp))⟩
          rw [hz.out]
          exact congrArg (fun b => Ending.returned (.bool b)) (show (s1 == f.size / 256) = decide (s1 = (f.size + 255) / 256) by rw [Bool.eq_iff_iff, beq_iff_eq, decide_eq_true_eq]; omega)
end Go.Proofs.YteemloillnfaeaaDoor
