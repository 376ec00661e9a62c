/- Chapter 3: the law's whole and reads. Conditions: numbers and lengths fit an int. -/
import Derived.Test.YtnljmhdaloolgaaDoorFrmH
namespace Go.Proofs.YtnljmhdaloolgaaDoor
open Go.RowKit Go.Wir Go.Blk Go.Frm

def wholeN (l : List Wr) : List (Nat × Txt) := (l.take 48).map fun p => (pickN p.1 4096, blockT p.2)
def wholeW (l : List Wr) : List Wr := intW (wholeN l)
theorem wholeN_length (l : List Wr) : (wholeN l).length = min 48 l.length := by simp [wholeN]
theorem wholeW_length (l : List Wr) : (wholeW l).length = min 48 l.length := by rw [wholeW, intW_length, wholeN_length]
theorem whole_fine (l : List Wr) : Fine (wholeW l) := by
  intro p hp
  unfold wholeW intW wholeN at hp
  simp only [List.map_map, List.mem_map] at hp
  obtain ⟨q, _, rfl⟩ := hp
  have := pickN_lt q.1 4096 (by omega)
  exact ⟨by simp; omega, blockT_length _⟩
theorem whole_nat (l : List Wr) : natW (wholeW l) = wholeN l := by
  unfold natW wholeW intW
  rw [List.map_map]
  conv => rhs; rw [← List.map_id (wholeN l)]
  apply List.map_congr_left
  intro p _
  simp
set_option maxRecDepth 100000 in
set_option maxHeartbeats 1600000 in
theorem law_whole (v : Value) (l : List Wr) (w : World) (h : Wrs w v l) (hn : l.length ≤ 9223372036854775807) (hf : ∀ p ∈ l, -9223372036854775808 ≤ p.1 ∧ p.1 ≤ 9223372036854775807 ∧ p.2.length ≤ 1000000) :
    Calls Tryd.prog 14 #[v] w fun e w' => ∃ v', e = .returned v' ∧ w'.ownsRow w.heap.size 45 2 v' (wholeN l).length (wrCells (wholeN l)) ∧ Below w.heap.size w w' := by
  obtain ⟨oa, c, rfl, hcell⟩ := h.form
  have Hcell := Lib.hid hcell
  have Hf := Lib.hid hf
  obtain ⟨i0, hi, hz0, hz1, hz2⟩ := info_parts Tryd.info_wrF
  clear h hf hcell
  go_enter Tryd.func14, Tryd.ntmps14
  go_wp2
  go_loopw [3, 4] (fun x3 x4 wr => ∃ k : Nat, k ≤ l.length ∧ k ≤ 48 ∧ x4 = .int .i64 k ∧ wr.ownsRow w.heap.size 45 2 x3 k (wrCells (wholeN (l.take k))) ∧ Below w.heap.size w wr) (fun _ x4 _ => 48 - (intOf x4).toNat)
  case atStart => exact ⟨0, by omega, by omega, rfl, World.ownsRow_nil _ _ _ _, Below.refl _ _⟩
  case round =>
    obtain ⟨k, hk, hk48, rfl, hown, hbel⟩ := hrel
    obtain ⟨ax, cx, rfl⟩ := own_form hown
    have Hown := Lib.hid hown
    have hbz := hbel.size
    by_cases hlt : k < l.length ∧ k < 48
    · obtain ⟨hlt, hlt2⟩ := hlt
      obtain ⟨b, off, rfl, hb, c0, c1⟩ := Hcell.out k hlt
      have c0 := cell_below hbel hb c0
      have c1 := cell_below hbel hb c1
      have hff := Hf.out l[k] (List.getElem_mem hlt)
      have hcat : Hid (wrCells (wholeN (l.take k)) ++ [.int .i64 (pickN l[k].1 4096 : Nat), .string (B (blockT l[k].2))] = wrCells (wholeN (l.take (k + 1)))) := Lib.hid (by
        rw [List.take_succ_eq_append_getElem hlt]
        unfold wholeN
        rw [List.take_of_length_le (l := l.take k) (by rw [List.length_take]; omega), List.take_of_length_le (l := l.take k ++ [l[k]]) (by rw [List.length_append, List.length_take, List.length_singleton]; omega), List.map_append, wrCells_append]
        rfl)
      have Hbel := Lib.hid hbel
      have hk1 : (k : Int) < (l.length : Int) := by omega
      have hk2 : (k : Int) < 48 := by omega
      have hk0 : (0 : Int) ≤ (k : Int) := by omega
      clear hbel hown
      generalize l[k] = p at *
      obtain ⟨pb, ps⟩ := p
      simp only at c0 c1 hcat
      obtain ⟨f1, f2, f3⟩ : -9223372036854775808 ≤ pb ∧ pb ≤ 9223372036854775807 ∧ ps.length ≤ 1000000 := hff
      have Hpick := Lib.hid (fun w => law_pick pb 4096 f1 f2 (by omega) (by omega) w)
      have Hblk := Lib.hid (fun w => law_block ps f3 w)
      generalize pickN pb 4096 = pn at *
      generalize hbt : blockT ps = bt at *
      clear hbt
      go_wp2
      go_region_held3 (fun w' => w'.cell? ⟨b, off + k * 2, none⟩ = some (.int .i64 pb) ∧ w'.cell? ⟨b, off + k * 2 + 1, none⟩ = some (.string (B ps)))
        (first
          | exact h2c_call (by assumption) hb9
          | exact ⟨c0, c1⟩
          | assumption
          | go_keep
          | (go_split_ands
             refine ⟨?_, ?_⟩
             · (rw [hgrow.cell_far _ (by simp; omega) (Ne.symm ag)]; assumption)
             · (rw [hgrow.cell_far _ (by simp; omega) (Ne.symm ag)]; assumption)))
        (first
          | (go_at_call 15; refine (Hpick.out _).mono ?_; rintro e w8 ⟨rfl, rfl⟩)
          | (go_at_call 20; refine (Hblk.out _).mono ?_; rintro e w9 ⟨rfl, hb9⟩; have HB9 : Hid (Below wr.heap.size wr w9) := Lib.hid (by first | exact hb9 | exact step_call (below_drew _) hb9); have hb9s : wr.heap.size ≤ w9.heap.size := HB9.out.size; have ag : Value.ownBlock (.slice ax k cx) ≠ some b := (fun h => by have := (Hown.out.lt _ h).1; omega); have lb : b < wr.heap.size := by omega)
          | (refine step_append_lies _ (by rfl) _ _ _ (by rfl) w.heap.size 45 i0 _ 2 24 Tryd.underlying23 hi hz0 hz1 hz2 rfl (by omega) (.slice ax k cx) k (wrCells (wholeN (l.take k))) (by rfl) ((own_kept Hown.out HB9.out).alloc _)
                    ⟨w9.heap.size, 0, none⟩ 1 1 [.int .i64 (pn : Nat), .string (B bt)] (by rfl) (by rfl) (World.news_of_block (cs := #[.int .i64 (pn : Nat), .string (B bt)]) (t := 45) (fr := (0, 0)) (heap_alloc_new w9 _)) (by simp [Value.oneCell'])
                    (by omega) (by unfold maxLen; omega) (by omega) (by simp; omega) (w9.heap.size + 1) (by simp) ?_; intro gg cap2 w7 hown7 hgrow hat hlt7))
      all_goals
        have Hb7 : Hid (Below w.heap.size w w7) := Lib.hid ((step_new (step_call Hbel.out HB9.out) (.cells #[.int .i64 (pn : Nat), .string (B bt)] 45)).grown hgrow (by simp; omega) (fun q hq => (Hown.out.lt q hq).1))
        rw [hcat.out] at hown7
        have Hown7 := Lib.hid hown7
        clear hown7 hgrow hat
        go_wp2
        go_roundw
        case rel => exact ⟨k + 1, by omega, by omega, by go_num, Hown7.out, Hb7.out⟩
        case measure => simp [intOf]; omega
    · have Hfin : Hid (wholeN (l.take k) = wholeN l ∧ k = (wholeN l).length) := Lib.hid (by
        rw [wholeN_length]
        unfold wholeN
        rw [List.take_take]
        by_cases h5 : k < l.length
        · exact ⟨by rw [show min 48 k = 48 by omega], by omega⟩
        · obtain rfl : k = l.length := by omega
          exact ⟨by rw [Nat.min_eq_right (by omega), List.take_length, List.take_of_length_le (by omega)], by omega⟩)
      rcases (show (l.length : Int) ≤ (k : Int) ∨ ((k : Int) < (l.length : Int) ∧ (48 : Int) ≤ (k : Int)) by omega) with hk1 | ⟨hk1, hk2⟩
      all_goals
        clear hlt
        go_wp2
        go_ret
        refine ⟨_, rfl, ?_, hbel⟩
        have := Hown.out
        rw [Hfin.out.1] at this
        rw [← Hfin.out.2]
        exact this
end Go.Proofs.YtnljmhdaloolgaaDoor
