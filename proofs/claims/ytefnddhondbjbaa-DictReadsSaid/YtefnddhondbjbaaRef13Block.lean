/- codexref13.block: the bytes of a block. Conditions: each entry is small. -/
import Derived.Test.YtefnddhondbjbaaRef13Alike
import Derived.Test.YtefnddhondbjbaaHeld
import Derived.Test.YtefnddhondbjbaaWireText
import Derived.Test.YtefnddhondbjbaaDictRight
namespace Go.Proofs.Ytefnddhondbjbaa
open Go.RowKit Go.Wir Go.Dic

theorem lastT_take (es : List Ent) (k : Nat) (h0 : 0 < k) (h : k ≤ es.length) : lastT [] (es.take k) = (es[k - 1]'(by omega)).1 := by
  obtain ⟨k, rfl⟩ : ∃ j, k = j + 1 := ⟨k - 1, by omega⟩
  rw [List.take_succ_eq_append_getElem (by omega), lastT_snoc]; simp
theorem blockL_take (last : List UInt8) (es : List Ent) (k : Nat) (h : k < es.length) : blockL last (es.take (k + 1)) = blockL last (es.take k) ++ entL (lastT last (es.take k)) es[k] := by
  rw [List.take_succ_eq_append_getElem h, blockL_snoc]

theorem ref13_number0 (w : World) : Calls Try.prog 40 #[.int .i64 0] w fun e w' => e = .returned (.string (B (varL 0))) ∧ Below w.heap.size w w' := ref13_number 0 (by omega) w
theorem ref13_alikeB (a b : List UInt8) (ha : (B a).size ≤ 9223372036854775807) (hb : (B b).size ≤ 9223372036854775807) (w : World) :
    Calls Try.prog 49 #[.string (B a), .string (B b)] w fun e w' => e = .returned (.int .i64 (alike a b : Nat)) ∧ Below w.heap.size w w' := ref13_alike (B a) (B b) ha hb w
set_option maxRecDepth 100000 in
set_option maxHeartbeats 1600000 in
theorem ref13_block_row (es : List Ent) (b off cap : Nat) (hn : es.length ≤ 1048576) (hz : ∀ e ∈ es, small e) (w : World) (hb : b < w.heap.size)
    (hcell : ∀ i (h : i < es.length), w.cell? ⟨b, off + i * 2, none⟩ = some (.string (B es[i].1)) ∧ w.cell? ⟨b, off + i * 2 + 1, none⟩ = some (.string (B es[i].2))) :
    Calls Try.prog 38 #[.slice (some ⟨b, off, none⟩) es.length cap] w fun e w' => e = .returned (.string (B (blockL [] es))) ∧ Below w.heap.size w w' := by
  have Hcell := Lib.hid hcell
  have Hz := Lib.hid hz
  clear hcell hz
  go_enter Try.func38, Try.ntmps38
  go_wp2
  go_loopw [3, 4] (fun s i wr => ∃ (k : Nat), k ≤ es.length ∧ i = .int .i64 k ∧ s = .string (B (blockL [] (es.take k))) ∧ Below w.heap.size w wr) (fun _ i _ => es.length - (intOf i).toNat)
  case atStart => exact ⟨0, by omega, rfl, rfl, Below.refl _ _⟩
  case round =>
    obtain ⟨k, hk, rfl, rfl, hbel⟩ := hrel
    by_cases hlt : k < es.length
    · obtain ⟨c1, c2⟩ := Hcell.out k hlt
      have c1 := cell_below hbel hb c1
      have c2 := cell_below hbel hb c2
      have Ht := Lib.hid (blockL_take [] es k hlt)
      have hze := Hz.out es[k] (List.getElem_mem hlt)
      have Hbel := Lib.hid hbel
      have hal := alike_le_right (lastT [] (es.take k)) es[k].1
      have Hla := Lib.hid (lastT_take es k)
      have Hla' : Hid (∀ h0 : 0 < k, wr.cell? ⟨b, off + (k - 1) * 2, none⟩ = some (.string (B (lastT [] (es.take k))))) := Lib.hid (fun h0 => by
        rw [Hla.out h0 hk]
        exact cell_below hbel hb (Hcell.out (k - 1) (by omega)).1)
      have Hl0 : Hid (k = 0 → lastT [] (es.take k) = []) := Lib.hid (fun h => by subst h; rfl)
      have Hlast : Hid ((B (lastT [] (es.take k))).size ≤ 9223372036854775807) := Lib.hid (by
        rw [size_B]
        by_cases h0 : 0 < k
        · rw [Hla.out h0 hk]; have := (Hz.out _ (List.getElem_mem (show k - 1 < es.length by omega))).1; omega
        · obtain rfl : k = 0 := by omega
          show ([] : List UInt8).length ≤ _; simp)
      have hacc := blockL_length [] (es.take k) (fun e he => Hz.out e (List.mem_of_mem_take he))
      rw [List.length_take, Nat.min_eq_left hk] at hacc
      clear Hla hbel
      generalize lastT [] (es.take k) = last at *
      generalize es[k] = e at *
      obtain ⟨t, v⟩ := e
      simp only at c1 c2 hze hal
      unfold small at hze
      obtain ⟨hz1, hz2⟩ := hze
      simp only at hz1 hz2
      have hzt : (B t).size ≤ 9223372036854775807 := by rw [size_B]; omega
      have h10 := (varL_length (alike last t)).2
      have hle := Nat.le_trans hz1 (show 40 ≤ 9223372036854775807 by omega)
      by_cases h0 : 0 < k
      · have c0 := Hla'.out h0
        have hll : (B last).size ≤ 9223372036854775807 := Hlast.out
        obtain ⟨j, rfl⟩ : ∃ j, k = j + 1 := ⟨k - 1, by omega⟩
        rw [show j + 1 - 1 = j by omega] at c0
        have q1 : IntKind.i64.wrap ((j : Int) + 1 - 1) = (j : Int) := by rw [show (j : Int) + 1 - 1 = (j : Int) by omega]; exact IntWalk.i64_in _ (by omega)
        have q2 : (j : Int) < es.length := by omega
        have q3 : j < es.length := by omega
        have q4 : (j : Int) + 1 < es.length := by omega
        have q5 : (0 : Int) ≤ (j : Int) + 1 := by omega
        have q6 : ((j : Int) + 1).toNat = j + 1 := by omega
        have q7 : IntKind.i64.wrap (j : Int) = (j : Int) := IntWalk.i64_in _ (by omega)
        go_wp2
        go_region_held3 (fun w' => Below wr.heap.size wr w' ∧ w'.cell? ⟨b, off + j * 2, none⟩ = some (.string (B last)) ∧ w'.cell? ⟨b, off + (j + 1) * 2, none⟩ = some (.string (B t)))
          (first | assumption | exact h2_drew c0 c1 | exact h2_call (by assumption) hb1)
          (first | (go_at_call 49; refine (ref13_alikeB last t hll hzt _).mono ?_; rintro e w1 ⟨rfl, hb1⟩))
        clear q1 q2 q3 q7
        have d1 := cell_call hb1 c1
        have d2 := cell_call hb1 c2
        have Hb1 := Lib.hid (step_call (below_to_drew Hbel.out) hb1)
        clear c0 c1 c2 hb1
        have r1 : alike last t ≤ (B t).size := by rw [size_B]; exact hal
        have r2 : ((alike last t : Nat) : Int) ≤ ((B t).size : Int) := by omega
        have hx1 := textL_length (L ((B t).extract (alike last t) (B t).size))
        rw [length_L] at hx1
        have hx2 : ((B t).extract (alike last t) (B t).size).size ≤ 40 := by rw [ByteArray.size_extract, size_B]; omega
        have hx3 := textL_length v
        have hx4 : (textL (L (B v))).length ≤ 10 + v.length := hx3
        have r3 : ¬ 9223372036854775807 < (B (blockL [] (es.take (j + 1)))).size + (B (varL (alike last t))).size := by rw [size_B, size_B]; omega
        have r4 : ¬ 9223372036854775807 < (B (blockL [] (es.take (j + 1)))).size + (B (varL (alike last t))).size + (B (textL (L ((B t).extract (alike last t) (B t).size)))).size := by
          have z1 := size_B (blockL [] (es.take (j + 1))); have z2 := size_B (varL (alike last t)); have z3 := size_B (textL (L ((B t).extract (alike last t) (B t).size))); omega
        have r5 : ¬ 9223372036854775807 < (B (blockL [] (es.take (j + 1)))).size + (B (varL (alike last t))).size + (B (textL (L ((B t).extract (alike last t) (B t).size)))).size + (B (textL (L (B v)))).size := by
          have z1 := size_B (blockL [] (es.take (j + 1))); have z2 := size_B (varL (alike last t)); have z3 := size_B (textL (L ((B t).extract (alike last t) (B t).size))); have z4 := size_B (textL (L (B v))); omega
        clear hx1 hx2 hx3 hx4
        go_wp2
        go_region_held3 (fun w' => Below w1.heap.size w1 w' ∧ w'.cell? ⟨b, off + (j + 1) * 2, none⟩ = some (.string (B t)) ∧ w'.cell? ⟨b, off + (j + 1) * 2 + 1, none⟩ = some (.string (B v)))
          (first | assumption | exact h2_drew d1 d2 | exact h2_call (by assumption) hb2)
          (first
            | (go_at_call 40; refine (ref13_number _ (by omega) _).mono ?_; rintro e w2 ⟨rfl, hb2⟩)
            | (go_at_call 39; refine (ref2_Text _ (by simp only [ByteArray.size_extract, size_B]; omega) _).mono ?_; rintro e w2 ⟨rfl, hb2⟩))
        go_wp2
        clear r1 r2 r3 r4 r5
        go_roundw
        case rel =>
          refine ⟨j + 1 + 1, by omega, by go_num, ?_, step_call Hb1.out (by go_split_ands; assumption)⟩
          have e1 : (B t).extract (alike last t) (B t).size = B (t.drop (alike last t)) := by rw [extract_to_end]; rfl
          rw [Ht.out, e1]
          simp only [B_append, entL, L_B, List.append_assoc]
        case measure => simp [intOf]; omega
      · obtain rfl : last = [] := Hl0.out (by omega)
        have Hal0 : Hid (alike [] t = 0) := Lib.hid (by cases t <;> rfl)
        rw [Hal0.out] at hal h10
        have d1 := c1
        have d2 := c2
        have Hb1 := Lib.hid Hbel.out
        clear c1 c2
        have r1 : 0 ≤ (B t).size := by rw [size_B]; exact hal
        have r2 : ((0 : Nat) : Int) ≤ ((B t).size : Int) := by omega
        have hx1 := textL_length (L (B t))
        rw [length_L] at hx1
        have hx2 : (B t).size ≤ 40 := by rw [size_B]; omega
        have hx3 := textL_length v
        have hx4 : (textL (L (B v))).length ≤ 10 + v.length := hx3
        have r3 : ¬ 9223372036854775807 < (B (blockL [] (es.take k))).size + (B (varL (0))).size := by rw [size_B, size_B]; omega
        have r4 : ¬ 9223372036854775807 < (B (blockL [] (es.take k))).size + (B (varL (0))).size + (B (textL (L (B t)))).size := by
          have z1 := size_B (blockL [] (es.take k)); have z2 := size_B (varL (0)); have z3 := size_B (textL (L (B t))); omega
        have r5 : ¬ 9223372036854775807 < (B (blockL [] (es.take k))).size + (B (varL (0))).size + (B (textL (L (B t)))).size + (B (textL (L (B v)))).size := by
          have z1 := size_B (blockL [] (es.take k)); have z2 := size_B (varL (0)); have z3 := size_B (textL (L (B t))); have z4 := size_B (textL (L (B v))); omega
        clear hx1 hx2 hx3 hx4
        go_wp2
        go_region_held3 (fun w' => Below wr.heap.size wr w' ∧ w'.cell? ⟨b, off + k * 2, none⟩ = some (.string (B t)) ∧ w'.cell? ⟨b, off + k * 2 + 1, none⟩ = some (.string (B v)))
          (first | assumption | exact h2_drew d1 d2 | exact h2_call (by assumption) hb2)
          (first
            | (go_at_call 40; refine (ref13_number0 _).mono ?_; rintro e w2 ⟨rfl, hb2⟩)
            | (go_at_call 39; refine (ref2_Text _ (by simp only [ByteArray.size_extract, size_B]; omega) _).mono ?_; rintro e w2 ⟨rfl, hb2⟩))
        go_wp2
        clear r1 r2 r3 r4 r5
        go_roundw
        case rel =>
          refine ⟨k + 1, by omega, by go_num, ?_, step_call Hb1.out (by go_split_ands; assumption)⟩
          rw [Ht.out]
          simp only [B_append, entL, L_B, List.append_assoc]
          rw [Hal0.out]; rfl
        case measure => simp [intOf]; omega
    · obtain rfl : k = es.length := by omega
      go_wp2
      go_ret
      exact ⟨ret_str (by rw [List.take_length]), hbel⟩
end Go.Proofs.Ytefnddhondbjbaa
