/- The reference's device of chapter 1: New. No conditions. -/
import Derived.Test.YtbcagddgchpheaaBlkQ
import Derived.Deep.AppendLies
namespace Go.Proofs.Ytbcagddgchpheaa
open Go.RowKit Go.Blk

set_option maxRecDepth 100000 in
theorem ref_New_bad (n : Int) (h : n < 1 ∨ 4096 < n) (w : World) : Calls Try.prog 12 #[.int .i64 n] w fun e w' => e = .returned (.tuple #[.pointer none, .bool false]) ∧ w = w' := by
  rcases h with h | h
  · go_enter Try.func12, Try.ntmps12
    go_wp2
    go_ret2
    exact ⟨rfl, rfl⟩
  · have h1 : ¬ n < 1 := by omega
    go_enter Try.func12, Try.ntmps12
    go_wp2
    go_ret2
    exact ⟨rfl, rfl⟩
theorem own_kept4 {w w' : World} {base : Nat} {e : TypeId} {size : Nat} {v : Value} {n : Nat} {xs : List Value} (h : w.ownsRow base e size v n xs) (b : Below w.heap.size w w') : w'.ownsRow base e size v n xs := own_chg h (A := fun _ => False) (Chg.of_below b) (fun _ _ h => h)
theorem zeros_snoc (k : Nat) : List.replicate (k + 1) zeros = List.replicate k zeros ++ [zeros] := List.replicate_succ'
set_option maxRecDepth 100000 in
set_option maxHeartbeats 1600000 in
theorem ref_New (n : Nat) (h1 : 1 ≤ n) (h2 : n ≤ 4096) (w : World) : Calls Try.prog 12 #[.int .i64 (n : Nat)] w fun e w' => ∃ g od, e = .returned (.tuple #[.pointer (some ⟨g, 0, none⟩), .bool true]) ∧ DevAt 42 w' g od none (newD n) ∧ (∀ k, ownV g od none k → w.heap.size ≤ k) ∧ Below w.heap.size w w' := by
  obtain ⟨i0, hi, hz0, hz1, hz2⟩ := info_parts Try.info_str
  have HN : Hid (newD n = ⟨List.replicate n zeros, [], -1, false⟩) := Lib.hid rfl
  go_enter Try.func12, Try.ntmps12
  go_wp2
  have hw0 : (w.alloc (.cells #[.slice none 0 0, .slice none 0 0, .int .i64 (-1), .bool false] 42)).heap[w.heap.size]? = some (.cells #[.slice none 0 0, .slice none 0 0, .int .i64 (-1), .bool false] 42 (0, 0)) := heap_alloc_new w _
  have hb0 := step_new (Below.refl w.heap.size w) (.cells #[.slice none 0 0, .slice none 0 0, .int .i64 (-1), .bool false] 42)
  have hs0 : w.heap.size < (w.alloc (.cells #[.slice none 0 0, .slice none 0 0, .int .i64 (-1), .bool false] 42)).heap.size := by simp
  have Hw0 := Lib.hid hw0
  have Hb0 := Lib.hid hb0
  have Hs0 := Lib.hid hs0
  clear hw0 hb0 hs0
  generalize w.alloc (.cells #[.slice none 0 0, .slice none 0 0, .int .i64 (-1), .bool false] 42) = w1 at *
  generalize hg : w.heap.size = g at *
  have Hg := Lib.hid hg
  clear hg
  go_loopw [5] (fun x wr => ∃ (k : Nat) (vd : Value), k ≤ n ∧ x = .int .i64 k ∧ wr.heap[g]? = some (.cells #[vd, .slice none 0 0, .int .i64 (-1), .bool false] 42 (0, 0)) ∧ wr.ownsRow (g + 1) 9 1 vd k (txtCells (List.replicate k zeros)) ∧ Below g w wr ∧ g < wr.heap.size) (fun x _ => n - (intOf x).toNat)
  case atStart => exact ⟨0, .slice none 0 0, by omega, rfl, Hw0.out, World.ownsRow_nil _ _ _ _, Hb0.out, Hs0.out⟩
  case round =>
    obtain ⟨k, vd, hk, rfl, hh, hown, hbel, hgl⟩ := hrel
    obtain ⟨ax, cx, rfl⟩ := own_formQ hown
    have Hown := Lib.hid hown
    have Hh := Lib.hid hh
    have Hbel := Lib.hid hbel
    have c0 : wr.cell? ⟨g, 0, none⟩ = some (.slice ax k cx) := by rw [Lib.cell_of_heap hh]; rfl
    by_cases hlt : k < n
    · have hk1 : (k : Int) < (n : Int) := by omega
      have hcat : Hid (txtCells (List.replicate k zeros) ++ [.string (B zeros)] = txtCells (List.replicate (k + 1) zeros)) := Lib.hid (by rw [zeros_snoc]; unfold txtCells; rw [List.map_append]; rfl)
      clear hh hown hbel
      go_wp2
      go_region_law (first
        | (refine step_append_lies _ (by rfl) _ _ _ (by rfl) (g + 1) 9 i0 _ 1 16 Try.underlying39 hi hz0 hz1 hz2 rfl (by omega) (.slice ax k cx) k (txtCells (List.replicate k zeros)) (by simp [Act.eval]) ((own_kept4 Hown.out HB4.out).alloc _)
              ⟨w4.heap.size, 0, none⟩ 1 1 [.string (B zeros)] (by simp [Act.eval]) (by rfl) (World.news_of_block (cs := #[.string (B zeros)]) (t := 9) (fr := (0, 0)) (heap_alloc_new w4 _)) (by simp [Value.oneCell'])
              (by omega) (by unfold maxLen; omega) (by omega) (by simp; omega) (w4.heap.size + 1) (by simp) ?_
           intro gg cap2 w7 hown7 hgrow hat hlt7
           have Hown7 := Lib.hid hown7
           have Hgrow := Lib.hid hgrow
           have Hlt7 := Lib.hid hlt7
           have hblk : w7.heap[g]? = some (.cells #[.slice ax k cx, .slice none 0 0, .int .i64 (-1), .bool false] 42 (0, 0)) := (hgrow.block g (by simp; omega) (fun e => by have := (Hown.out.lt g e.symm).1; omega)).trans ((heap_alloc_old _ _ (by omega)).trans ((HB4.out.block g hgl).trans Hh.out))
           have Hblk := Lib.hid hblk
           have d0 : w7.cell? ⟨g, 0, none⟩ = some (.slice ax k cx) := by rw [Lib.cell_of_heap hblk]; rfl
           have f0 : w7.frozen? ⟨g, 0, none⟩ = false := Lib.frozen_of_heap hblk 0
           clear hown7 hgrow hat hlt7 hblk)
        | (go_simp
           go_at_call 31
           refine (ref_Noughts _).mono ?_
           rintro e w4 ⟨rfl, hb4⟩
           have HB4 : Hid (Below wr.heap.size wr w4) := Lib.hid (by first | exact hb4 | exact step_call (below_drew _) hb4)
           have hb4s := HB4.out.size
           have q0 : w4.cell? ⟨g, 0, none⟩ = some (.slice ax k cx) := cell_call HB4.out c0
           have q1 : (w4.alloc (.cells #[.string (B zeros)] 9)).cell? ⟨g, 0, none⟩ = some (.slice ax k cx) := cell_alloc _ q0
           clear hb4))
      all_goals
        have hgg : g + 1 ≤ gg := (Hown7.out.lt gg rfl).1
        have HO := Lib.hid (own_chg Hown7.out ((Chg.refl (fun q => q = g) w7).set g 0 (.slice (some ⟨gg, 0, none⟩) (k + 1) cap2) rfl) (fun q hq => by simp only [Value.ownBlock, Option.some.injEq] at hq; omega))
        have HH : Hid ((w7.setCell ⟨g, 0, none⟩ (.slice (some ⟨gg, 0, none⟩) (k + 1) cap2)).heap[g]? = some (.cells #[.slice (some ⟨gg, 0, none⟩) (k + 1) cap2, .slice none 0 0, .int .i64 (-1), .bool false] 42 (0, 0))) := Lib.hid (by simp [World.setCell, Array.getElem?_modify, Hblk.out])
        have HB : Hid (Below g w (w7.setCell ⟨g, 0, none⟩ (.slice (some ⟨gg, 0, none⟩) (k + 1) cap2))) := Lib.hid (((Hbel.out.trans ((step_new HB4.out (.cells #[.string (B zeros)] 9)).mono (by omega))).grown Hgrow.out (by simp; omega) (fun q hq => by have := (Hown.out.lt q hq).1; omega)).setCell (Nat.le_refl _) _)
        have HS : Hid (g < (w7.setCell ⟨g, 0, none⟩ (.slice (some ⟨gg, 0, none⟩) (k + 1) cap2)).heap.size) := Lib.hid (by have := Hlt7.out; simp [World.setCell]; omega)
        go_wp2
        go_roundw
        case rel => exact ⟨k + 1, _, by omega, by go_num, HH.out, by rw [← hcat.out]; exact HO.out, HB.out, HS.out⟩
        case measure => simp [intOf]; omega
    · obtain rfl : k = n := by omega
      have hlow : ∀ q, ownV g (Value.slice ax k cx).ownBlock none q → g ≤ q := by
        intro q hq
        rcases hq with rfl | hq | hq
        · exact Nat.le_refl _
        · have := (Hown.out.lt q hq).1; omega
        · cases hq
      have Hlow := Lib.hid hlow
      have Hfin : Hid (DevAt 42 wr g (Value.slice ax k cx).ownBlock none (newD k)) := Lib.hid (by
        rw [HN.out]
        exact ⟨.slice ax k cx, .slice none 0 0, Hh.out, own_baseQ (by rw [List.length_replicate]; exact Hown.out) (Nat.zero_le _), rfl, World.ownsRow_nil _ _ _ _, rfl, fun e => by have := (Hown.out.lt g e).1; omega, by simp, fun _ _ => by simp⟩)
      clear hh hown hbel hlow
      go_wp2
      go_ret2
      exact ⟨g, _, rfl, Hfin.out, by rw [Hg.out]; exact Hlow.out, by rw [Hg.out]; exact Hbel.out⟩
end Go.Proofs.Ytbcagddgchpheaa
