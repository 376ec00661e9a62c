/- Chapter 10: Kind. No conditions. -/
import Derived.Test.YtpibflpmhhgbkaaDoorUtfTabs
import Derived.Test.YtpibflpmhhgbkaaDoorUtfE
import Derived.Test.YtpibflpmhhgbkaaDoorSearch
import Derived.RegionTactic
import Derived.ChangeAlike
namespace Go.Utf
/-- How many spans end below a number. -/
def belowS (r : Int) (i : Nat) : Bool := decide (r ≤ (spansT.getD i (0, 0, 0)).2.1)
def cntS (r : Int) : Nat := (List.range 34).countP fun i => !belowS r i
theorem find_count {α : Type} (p : α → Bool) : ∀ l : List α, l.Pairwise (fun a b => p a = true → p b = true) → l.find? p = l[l.countP fun a => !p a]?
  | [], _ => rfl
  | a :: l, h => by
    obtain ⟨h1, h2⟩ := List.pairwise_cons.1 h
    cases ha : p a with
    | true =>
      rw [List.find?_cons_of_pos (by simpa using ha)]
      have : (a :: l).countP (fun a => !p a) = 0 := by
        rw [List.countP_eq_zero]
        intro b hb
        rcases List.mem_cons.1 hb with rfl | hb
        · simp [ha]
        · simp [h1 b hb ha]
      rw [this]; rfl
    | false =>
      rw [List.find?_cons_of_neg (by simp [ha]), List.countP_cons_of_pos (by simp [ha]), find_count p l h2]; rfl
theorem spans_rise : spansT.Pairwise (fun a b => a.2.1 < b.2.1) := by decide
theorem cntS_eq (r : Int) : cntS r = spansT.countP fun s => !decide (r ≤ s.2.1) := by
  have e : spansT = (List.range 34).map fun i => spansT.getD i (0, 0, 0) := by decide
  unfold cntS
  rw [e, List.countP_map]
  have : (fun s : Int × Int × Int => !decide (r ≤ s.2.1)) ∘ (fun i => spansT.getD i (0, 0, 0)) = fun i => !belowS r i := rfl
  rw [this]
theorem kindS_at (r : Int) : kindS r = if cntS r < 34 then (if (spansT.getD (cntS r) (0, 0, 0)).1 ≤ r then (spansT.getD (cntS r) (0, 0, 0)).2.2 else 0) else 0 := by
  unfold kindS
  rw [find_count _ _ (spans_rise.imp fun h => by simp; omega), ← cntS_eq]
  by_cases h : cntS r < 34
  · rw [if_pos h]
    have h' : cntS r < spansT.length := h
    rw [List.getD_eq_getElem?_getD, List.getElem?_eq_getElem h']
    rfl
  · rw [if_neg h, List.getElem?_eq_none (by have : spansT.length = 34 := rfl; omega)]
theorem span_high (i : Nat) (hi : i < 34) : 0 ≤ (spansT.getD i (0, 0, 0)).2.1 ∧ (spansT.getD i (0, 0, 0)).2.1 ≤ 60000 := by
  have : ∀ i, i < 34 → 0 ≤ (spansT.getD i (0, 0, 0)).2.1 ∧ (spansT.getD i (0, 0, 0)).2.1 ≤ 60000 := by decide
  exact this i hi
theorem span_low (i : Nat) (hi : i < 34) : 0 ≤ (spansT.getD i (0, 0, 0)).1 ∧ (spansT.getD i (0, 0, 0)).1 ≤ 60000 := by
  have : ∀ i, i < 34 → 0 ≤ (spansT.getD i (0, 0, 0)).1 ∧ (spansT.getD i (0, 0, 0)).1 ≤ 60000 := by decide
  exact this i hi
theorem below_mono (r : Int) (a b : Nat) (hab : a ≤ b) (hb : b < 34) (h : belowS r a = true) : belowS r b = true := by
  unfold belowS at *
  rw [decide_eq_true_eq] at *
  rcases Nat.lt_or_ge a b with h1 | h1
  · have hl : spansT.length = 34 := rfl
    have := List.pairwise_iff_getElem.1 spans_rise a b (by omega) (by omega) h1
    rw [List.getD_eq_getElem?_getD, List.getElem?_eq_getElem (by omega)] at *
    simp only [Option.getD_some] at *
    omega
  · obtain rfl : a = b := by omega
    exact h
end Go.Utf
namespace Go.Proofs.YtpibflpmhhgbkaaDoor
open Go.RowKit Go.Utf Go.Shelf Go.Lib Go.Sort

set_option maxRecDepth 100000 in
set_option maxHeartbeats 1000000 in
theorem kind_closure (r : Int) (ba i : Nat) (hi : i < 34) (W : World) (ha : W.cell? ⟨ba, 0, none⟩ = some (.int .i64 r)) (hs : SpansAt W) :
    Calls Tryd.prog 48 (#[.int .i64 i] ++ #[.pointer (some ⟨ba, 0, none⟩)]) W fun e w' => e = .returned (.bool (belowS r i)) ∧ ∃ q, w' = W.drewN q := by
  have hc := (hs i hi).2.1
  have hiz : (i : Int) < 34 := by omega
  have hx := span_high i hi
  unfold belowS
  generalize (spansT.getD i (0, 0, 0)).2.1 = x at hc hx ⊢
  obtain ⟨hx0, hx1⟩ := hx
  clear hs
  go_enter Tryd.func48, Tryd.ntmps48
  go_wp2
  go_region
  all_goals go_wp2
  all_goals go_ret
  all_goals exact ⟨by first | rfl | simp, 1, rfl⟩
set_option maxRecDepth 100000 in
set_option maxHeartbeats 1000000 in
theorem utf_Kind (r : Int) (w : World) (hT : Tabs w) : Calls Tryd.prog 36 #[.int .i64 r] w fun e w' => e = .returned (.int .i64 (kindN r)) ∧ Below w.heap.size w w' := by
  have hbel := Lib.hid (step_new (Below.refl w.heap.size w) (.cells #[.int .i64 r] 3))
  have hc : (w.alloc (.cells #[.int .i64 r] 3)).cell? ⟨w.heap.size, 0, none⟩ = some (.int .i64 r) := by
    rw [Lib.cell_of_heap (heap_alloc_new w _)]; rfl
  have HS := Lib.hid (Any.sort_Search lays16 48 #[.pointer (some ⟨w.heap.size, 0, none⟩)] 34 (belowS r) (w.alloc (.cells #[.int .i64 r] 3)) (enters_of Tryd.func48 (by kernel_rfl) rfl) (by omega)
    (fun m os i hi => by
      have hb : Below (w.alloc (.cells #[.int .i64 r] 3)).heap.size (w.alloc (.cells #[.int .i64 r] 3)) (grow ((w.alloc (.cells #[.int .i64 r] 3)).drewN m) os) := below_grown_sl _ _ _ _ (Nat.le_refl _)
      refine (kind_closure r w.heap.size i hi _ (cell_below hb (by simp) hc) ((hT.below hbel.out).below hb).sp).mono ?_
      rintro e w' ⟨rfl, q, rfl⟩
      exact ⟨rfl, q, #[], by rw [grow_empty]⟩)
    (fun a b hab hb h => below_mono r a b hab hb h))
  rw [show ((List.range 34).countP (fun i => !belowS r i)) = cntS r from rfl] at HS
  have Hk := Lib.hid ((kind_eq r).symm.trans (kindS_at r))
  have HT := Lib.hid hT
  obtain ⟨n, hn⟩ : ∃ n, cntS r = n := ⟨_, rfl⟩
  rw [hn] at HS Hk
  obtain ⟨v, hv⟩ : ∃ v, kindN r = v := ⟨_, rfl⟩
  rw [hv] at Hk ⊢
  clear hn hv hc hT
  go_enter Tryd.func36, Tryd.ntmps36
  go_wp2_with fail
  refine HS.out.mono ?_
  rintro e w1 ⟨rfl, q, os, hw1⟩
  have hb1 : Below (w.alloc (.cells #[.int .i64 r] 3)).heap.size (w.alloc (.cells #[.int .i64 r] 3)) w1 := hw1 ▸ below_grown_sl _ _ _ _ (Nat.le_refl _)
  have hb : Below w.heap.size w w1 := hbel.out.trans (hb1.mono (by simp))
  have hc1 : w1.cell? ⟨w.heap.size, 0, none⟩ = some (.int .i64 r) := cell_below hb1 (by simp) (by rw [Lib.cell_of_heap (heap_alloc_new w _)]; rfl)
  have hsp := (HT.out.below hb).sp
  have Hb := Lib.hid hb
  clear hw1 hb1 hb
  by_cases h34 : n < 34
  · obtain ⟨c0, _, c2⟩ := hsp n h34
    obtain ⟨lo0, lo1⟩ := span_low n h34
    have hk := Hk.out
    rw [if_pos h34] at hk
    generalize (spansT.getD n (0, 0, 0)).1 = x at c0 hk lo0 lo1
    generalize (spansT.getD n (0, 0, 0)).2.2 = y at c2 hk
    have hz : (n : Int) < 34 := by omega
    clear hsp h34
    by_cases hx : x ≤ r
    · rw [if_pos hx] at hk
      subst hk
      go_wp2
      go_region
      all_goals go_wp2
      all_goals go_ret
      all_goals exact ⟨rfl, Hb.out.drew⟩
    · rw [if_neg hx] at hk
      have hx' : r < x := by omega
      subst hk
      clear hx
      go_wp2
      go_region
      all_goals go_wp2
      all_goals go_ret
      all_goals exact ⟨rfl, Hb.out.drew⟩
  · have hk := Hk.out
    rw [if_neg h34] at hk
    have hz : decide ((n : Int) < 34) = false := decide_eq_false (by omega)
    subst hk
    clear hsp h34
    go_wp2
    go_region
    all_goals go_wp2
    all_goals go_ret
    all_goals exact ⟨rfl, Hb.out.drew⟩
end Go.Proofs.YtpibflpmhhgbkaaDoor
