/- Chapter 6's small walks: use, Misses, New, Pin, Unpin. Conditions: the numbers are small. -/
import Derived.Test.YtikkdhfbihejbaaCchMem
namespace Go.Proofs.Ytikkdhfbihejbaa
open Go.RowKit Go.Cch
attribute [local go_sem] Oper.semAt_some

theorem cells_of {w : World} {src : Value} {cb mb clk : Nat} {c : Ch} (h : w.heap[cb]? = some (.cells (chCells src c clk mb) 66)) :
    w.cell? ⟨cb, 0, none⟩ = some src ∧ w.cell? ⟨cb, 1, none⟩ = some (.int .i64 ((c.most : Nat) : Int)) ∧ w.cell? ⟨cb, 2, none⟩ = some (.int .i64 ((clk : Nat) : Int)) ∧ w.cell? ⟨cb, 3, none⟩ = some (.int .i64 ((c.misses : Nat) : Int)) ∧ w.cell? ⟨cb, 4, none⟩ = some (.map (some mb)) := by
  refine ⟨?_, ?_, ?_, ?_, ?_⟩ <;> (rw [Lib.cell_of_heap h]; rfl)
theorem cells_ent {w : World} {e : Ent} (h : w.heap[e.g]? = some (.cells (entCells e) 70)) :
    w.cell? ⟨e.g, 0, none⟩ = some (.string (B e.x.data)) ∧ w.cell? ⟨e.g, 1, none⟩ = some (.bool e.x.dirty) ∧ w.cell? ⟨e.g, 2, none⟩ = some (.int .i64 ((e.x.pins : Nat) : Int)) ∧ w.cell? ⟨e.g, 3, none⟩ = some (.int .i64 ((e.u : Nat) : Int)) := by
  refine ⟨?_, ?_, ?_, ?_⟩ <;> (rw [Lib.cell_of_heap h]; rfl)
set_option maxRecDepth 100000 in
theorem cch_use (w : World) (src : Value) (cb mb clk : Nat) (c : Ch) (e : Ent) (hc : w.heap[cb]? = some (.cells (chCells src c clk mb) 66)) (he : w.heap[e.g]? = some (.cells (entCells e) 70)) (hclk : clk < 1000000) :
    Calls Try.prog 30 #[.pointer (some ⟨cb, 0, none⟩), .pointer (some ⟨e.g, 0, none⟩)] w fun x w' => x = .returned (.tuple #[]) ∧ w' = (w.setCell ⟨cb, 2, none⟩ (.int .i64 ((clk + 1 : Nat) : Int))).setCell ⟨e.g, 3, none⟩ (.int .i64 ((clk + 1 : Nat) : Int)) := by
  obtain ⟨-, -, c2, -, -⟩ := cells_of hc
  obtain ⟨-, -, -, e3⟩ := cells_ent he
  have f2 : w.frozen? ⟨cb, 2, none⟩ = false := Lib.frozen_of_heap hc _
  have f3 : w.frozen? ⟨e.g, 3, none⟩ = false := Lib.frozen_of_heap he _
  clear hc he
  go_enter Try.func30, Try.ntmps30
  go_wp2
  go_end0
  exact ⟨rfl, rfl⟩
theorem cch_Misses (w : World) (src : Value) (cb mb clk : Nat) (c : Ch) (hc : w.heap[cb]? = some (.cells (chCells src c clk mb) 66)) :
    Calls Try.prog 16 #[.pointer (some ⟨cb, 0, none⟩)] w fun x w' => x = .returned (.int .i64 ((c.misses : Nat) : Int)) ∧ w = w' := by
  obtain ⟨-, -, -, c3, -⟩ := cells_of hc
  clear hc
  go_enter Try.func16, Try.ntmps16
  go_wp2
  go_ret
  exact ⟨rfl, rfl⟩
set_option maxRecDepth 100000 in
theorem cch_New_bad (w : World) (src : Value) (n : Int) (hn : n < 1 ∨ 1024 < n) :
    Calls Try.prog 11 #[src, .int .i64 n] w fun x w' => x = .returned (.tuple #[.pointer none, .int .i64 2]) ∧ w = w' := by
  rcases hn with hn | hn
  all_goals
    go_enter Try.func11, Try.ntmps11
    go_wp2
    go_ret2
    exact ⟨rfl, rfl⟩
set_option maxRecDepth 100000 in
theorem cch_New (w : World) (t : TypeId) (x : Value) (n : Nat) (h1 : 1 ≤ n) (h2 : n ≤ 1024) :
    Calls Try.prog 11 #[.iface t x, .int .i64 ((n : Nat) : Int)] w fun e w' => e = .returned (.tuple #[.pointer (some ⟨w.heap.size + 1, 0, none⟩), .int .i64 0]) ∧ CAt w' (.iface t x) (w.heap.size + 1) w.heap.size 0 (newC n) [] ∧ Below w.heap.size w w' := by
  have hmk := run_makeMap (P := Try.prog) 64 w
  go_enter Try.func11, Try.ntmps11
  go_wp2
  go_ret2
  have hsz : (w.alloc (.map #[] 0)).heap.size = w.heap.size + 1 := World.size_alloc _ _
  refine ⟨rfl, ⟨new_ok h1, rfl, ⟨List.Pairwise.nil, fun _ h => (by cases h)⟩, ?_, ?_, fun _ h => (by cases h), by omega, fun _ h => (by cases h), List.nodup_nil, fun _ h => (by cases h)⟩, ((Below.refl _ w).alloc (Nat.le_refl _) _).alloc (by simp) _⟩
  · rw [← hsz]; exact heap_alloc_new _ _
  · exact ((World.ptrMap_made w Try.prog 3).same (fun _ => rfl)).alloc _
/-- The map's lookup, at whatever number. -/
theorem cch_at {w : World} {src : Value} {cb mb clk : Nat} {c : Ch} {M : List Ent} (h : CAt w src cb mb clk c M) (i : Int) : (hasL c.l i = false ∧ entF M i = none ∧ findL c.l i = none) ∨ ∃ e, hasL c.l i = true ∧ entAt M i = some e ∧ entF M i = some e.g ∧ findL c.l i = some e.x ∧ e ∈ M ∧ e.x.pos = i := by
  cases hn : hasL c.l i with
  | false =>
    refine .inl ⟨rfl, ?_, find_none.2 hn⟩
    unfold entF; rw [entAt_none.2 (by rw [h.list]; exact hn)]; rfl
  | true =>
    cases he : entAt M i with
    | none => rw [← h.list, entAt_none.1 he] at hn; cases hn
    | some e =>
      obtain ⟨h1, h2⟩ := entAt_some he
      exact .inr ⟨e, rfl, rfl, by unfold entF; rw [he]; rfl, by rw [← h.list, entAt_find, he]; rfl, h1, h2⟩
set_option maxRecDepth 100000 in
set_option maxHeartbeats 800000 in
theorem cch_Pin (w : World) (src : Value) (cb mb clk : Nat) (c : Ch) (M : List Ent) (h : CAt w src cb mb clk c M) (i : Int) (hi : keyI i) (hp : ∀ e ∈ M, e.x.pins < 1000000) :
    Calls Try.prog 13 #[.pointer (some ⟨cb, 0, none⟩), .int .i64 i] w fun x w' => x = .returned (.int .i64 (pinC c i).1) ∧ MutC w w' src cb mb clk M (pinC c i).2 := by
  obtain ⟨-, -, -, -, c4⟩ := cells_of h.blk
  have hmap := Lib.hid h.map
  rcases cch_at h i with ⟨hn, hf, -⟩ | ⟨e, hn, he, hf, -, hem, hep⟩
  · have hR : Hid (pinC c i = (10, c)) := Lib.hid (by unfold pinC; rw [hn]; rfl)
    have H := Lib.hid h
    rw [hR.out]
    clear h hn
    go_enter Try.func13, Try.ntmps13
    go_wp2_with (at_lookup; refine wpList_look_ptr _ rfl _ _ 64 rfl 3 67 Try.underlying3 Try.underlying64 (by kernel_rfl) mb _ _ rfl hmap.out i hi rfl ?_; rw [hf]; dsimp only [ptrV])
    go_ret
    exact ⟨rfl, M, H.out, fun k hk => .inl hk, Chg.refl _ _⟩
  · have hR : Hid (pinC c i = (0, { c with l := c.l.map fun x => if x.is i then { x with pins := x.pins + 1 } else x })) := Lib.hid (by unfold pinC; rw [hn]; rfl)
    rw [hR.out]
    obtain ⟨-, -, e2, -⟩ := cells_ent (h.ents e hem)
    have f2 : w.frozen? ⟨e.g, 2, none⟩ = false := Lib.frozen_of_heap (h.ents e hem) _
    have hpe := hp e hem
    have hfin : MutC w (w.setCell ⟨e.g, 2, none⟩ (.int .i64 ((e.x.pins : Int) + 1))) src cb mb clk M { c with l := c.l.map fun x => if x.is i then { x with pins := x.pins + 1 } else x } := by
      refine ⟨_, h.turn (fun x => if x.is i then { x with pins := x.pins + 1 } else x) (fun x => by split <;> rfl) (fun d hd => ?_) (fun k _ hk => heap_set_other (hk e hem) _), ?_, (Chg.refl _ w).set _ _ _ (fun _ => .inr (.inr ⟨e, hem, rfl⟩))⟩
      · by_cases hde : d.g = e.g
        · have := g_inj h.apart hem hd hde
          subst this
          rw [heap_set_same (h.ents d hd)]
          rw [if_pos (is_iff.2 hep)]
          rfl
        · rw [heap_set_other hde, h.ents d hd]
          have : d.x.is i = false := by
            rw [← Bool.not_eq_true, is_iff]
            exact fun hp => hde (by rw [h.self hem hd (hp.trans hep.symm)])
          rw [this]
          rfl
      · rintro k (rfl | rfl | ⟨d, hd, rfl⟩)
        · exact .inl (.inl rfl)
        · exact .inl (.inr (.inl rfl))
        · obtain ⟨d', hd', rfl⟩ := List.mem_map.1 hd
          exact .inl (.inr (.inr ⟨d', hd', rfl⟩))
    have Hfin := Lib.hid hfin
    clear h hn hp hfin he
    go_enter Try.func13, Try.ntmps13
    go_wp2_with (at_lookup; refine wpList_look_ptr _ rfl _ _ 64 rfl 3 67 Try.underlying3 Try.underlying64 (by kernel_rfl) mb _ _ rfl hmap.out i hi rfl ?_; rw [hf]; dsimp only [ptrV])
    go_ret
    exact ⟨rfl, Hfin.out⟩
set_option maxRecDepth 100000 in
set_option maxHeartbeats 800000 in
theorem cch_Unpin (w : World) (src : Value) (cb mb clk : Nat) (c : Ch) (M : List Ent) (h : CAt w src cb mb clk c M) (i : Int) (hi : keyI i) (hp : ∀ e ∈ M, e.x.pins < 1000000) :
    Calls Try.prog 28 #[.pointer (some ⟨cb, 0, none⟩), .int .i64 i] w fun x w' => x = .returned (.int .i64 (unpinC c i).1) ∧ MutC w w' src cb mb clk M (unpinC c i).2 := by
  obtain ⟨-, -, -, -, c4⟩ := cells_of h.blk
  have hmap := Lib.hid h.map
  rcases cch_at h i with ⟨hn, hf, hfd⟩ | ⟨e, hn, he, hf, hfd, hem, hep⟩
  · have hR : Hid (unpinC c i = (10, c)) := Lib.hid (by unfold unpinC; rw [hfd])
    have H := Lib.hid h
    rw [hR.out]
    clear h hn
    go_enter Try.func28, Try.ntmps28
    go_wp2_with (at_lookup; refine wpList_look_ptr _ rfl _ _ 64 rfl 3 67 Try.underlying3 Try.underlying64 (by kernel_rfl) mb _ _ rfl hmap.out i hi rfl ?_; rw [hf]; dsimp only [ptrV])
    go_ret
    exact ⟨rfl, M, H.out, fun k hk => .inl hk, Chg.refl _ _⟩
  · obtain ⟨-, -, e2, -⟩ := cells_ent (h.ents e hem)
    by_cases h0 : e.x.pins = 0
    · have hR : Hid (unpinC c i = (14, c)) := Lib.hid (by unfold unpinC; rw [hfd]; simp only [if_pos h0])
      have H := Lib.hid h
      rw [hR.out]
      rw [h0] at e2
      clear h hn he
      go_enter Try.func28, Try.ntmps28
      go_wp2_with (at_lookup; refine wpList_look_ptr _ rfl _ _ 64 rfl 3 67 Try.underlying3 Try.underlying64 (by kernel_rfl) mb _ _ rfl hmap.out i hi rfl ?_; rw [hf]; dsimp only [ptrV])
      go_ret
      exact ⟨rfl, M, H.out, fun k hk => .inl hk, Chg.refl _ _⟩
    have hR : Hid (unpinC c i = (0, { c with l := c.l.map fun x => if x.is i then { x with pins := x.pins - 1 } else x })) := Lib.hid (by unfold unpinC; rw [hfd]; simp only [if_neg h0])
    rw [hR.out]
    have f2 : w.frozen? ⟨e.g, 2, none⟩ = false := Lib.frozen_of_heap (h.ents e hem) _
    have hpe := hp e hem
    have hpz : ((e.x.pins : Int) == 0) = false := by rw [beq_eq_false_iff_ne]; omega
    have hfin : MutC w (w.setCell ⟨e.g, 2, none⟩ (.int .i64 ((e.x.pins : Int) - 1))) src cb mb clk M { c with l := c.l.map fun x => if x.is i then { x with pins := x.pins - 1 } else x } := by
      refine ⟨_, h.turn (fun x => if x.is i then { x with pins := x.pins - 1 } else x) (fun x => by split <;> rfl) (fun d hd => ?_) (fun k _ hk => heap_set_other (hk e hem) _), ?_, (Chg.refl _ w).set _ _ _ (fun _ => .inr (.inr ⟨e, hem, rfl⟩))⟩
      · by_cases hde : d.g = e.g
        · have := g_inj h.apart hem hd hde
          subst this
          rw [heap_set_same (h.ents d hd)]
          rw [if_pos (is_iff.2 hep)]
          unfold entCells
          rw [show (d.x.pins : Int) - 1 = ((d.x.pins - 1 : Nat) : Int) by omega]
          rfl
        · rw [heap_set_other hde, h.ents d hd]
          have : d.x.is i = false := by
            rw [← Bool.not_eq_true, is_iff]
            exact fun hp => hde (by rw [h.self hem hd (hp.trans hep.symm)])
          rw [this]
          rfl
      · rintro k (rfl | rfl | ⟨d, hd, rfl⟩)
        · exact .inl (.inl rfl)
        · exact .inl (.inr (.inl rfl))
        · obtain ⟨d', hd', rfl⟩ := List.mem_map.1 hd
          exact .inl (.inr (.inr ⟨d', hd', rfl⟩))
    have Hfin := Lib.hid hfin
    clear h hn hp hfin he
    go_enter Try.func28, Try.ntmps28
    go_wp2_with (at_lookup; refine wpList_look_ptr _ rfl _ _ 64 rfl 3 67 Try.underlying3 Try.underlying64 (by kernel_rfl) mb _ _ rfl hmap.out i hi rfl ?_; rw [hf]; dsimp only [ptrV])
    go_ret
    exact ⟨rfl, Hfin.out⟩
end Go.Proofs.Ytikkdhfbihejbaa
