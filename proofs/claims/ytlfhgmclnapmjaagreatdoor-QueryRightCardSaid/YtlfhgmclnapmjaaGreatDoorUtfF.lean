/- Chapter 10: Kind. No conditions. Chapter 10: the reference's Bytes. Condition: it is a rune. The reference's reading of a rune, plain. No conditions. Chapter 10: the reference's Rune. Condition: the text's length fits an int. Chapter 10: Rune, Valid, runeOf, Append; the reference's Append, Valid. Conditions: the text's length fits an int (of Append: is small). -/
import Derived.Test.YtlfhgmclnapmjaaGreatDoorUtfTabs
import Derived.Test.YtlfhgmclnapmjaaGreatDoorUtfA
import Derived.Test.YtlfhgmclnapmjaaGreatDoorSearch
import Derived.RegionTactic
import Derived.ChangeAlike
import Derived.Laws.BytesArg
import Derived.Test.YtlfhgmclnapmjaaGreatDoorUtfPlain
import Derived.IntWalk
import Derived.Deep.RegionWith
import Derived.Lib.ValidU
namespace Go.Utf
/-- How many spans end below a number. -/
def belowS (r : Int) (i : Nat) : Bool := decide (r ≤ (spansT.getD i (0, 0, 0)).2.1)
def cntS (r : Int) : Nat := (List.range 34).countP fun i => !belowS r i
theorem find_count {α : Type} (p : α → Bool) : ∀ l : List α, l.Pairwise (fun a b => p a = true → p b = true) → l.find? p = l[l.countP fun a => !p a]?
  | [], _ => rfl
  | a :: l, h => by
    obtain ⟨h1, h2⟩ := List.pairwise_cons.1 h
    cases ha : p a with
    | true =>
      rw [List.find?_cons_of_pos (by simpa using ha)]
      have : (a :: l).countP (fun a => !p a) = 0 := by
        rw [List.countP_eq_zero]
        intro b hb
        rcases List.mem_cons.1 hb with rfl | hb
        · simp [ha]
        · simp [h1 b hb ha]
      rw [this]; rfl
    | false =>
      rw [List.find?_cons_of_neg (by simp [ha]), List.countP_cons_of_pos (by simp [ha]), find_count p l h2]; rfl
theorem spans_rise : spansT.Pairwise (fun a b => a.2.1 < b.2.1) := by decide
theorem cntS_eq (r : Int) : cntS r = spansT.countP fun s => !decide (r ≤ s.2.1) := by
  have e : spansT = (List.range 34).map fun i => spansT.getD i (0, 0, 0) := by decide
  unfold cntS
  rw [e, List.countP_map]
  have : (fun s : Int × Int × Int => !decide (r ≤ s.2.1)) ∘ (fun i => spansT.getD i (0, 0, 0)) = fun i => !belowS r i := rfl
  rw [this]
theorem kindS_at (r : Int) : kindS r = if cntS r < 34 then (if (spansT.getD (cntS r) (0, 0, 0)).1 ≤ r then (spansT.getD (cntS r) (0, 0, 0)).2.2 else 0) else 0 := by
  unfold kindS
  rw [find_count _ _ (spans_rise.imp fun h => by simp; omega), ← cntS_eq]
  by_cases h : cntS r < 34
  · rw [if_pos h]
    have h' : cntS r < spansT.length := h
    rw [List.getD_eq_getElem?_getD, List.getElem?_eq_getElem h']
    rfl
  · rw [if_neg h, List.getElem?_eq_none (by have : spansT.length = 34 := rfl; omega)]
theorem span_high (i : Nat) (hi : i < 34) : 0 ≤ (spansT.getD i (0, 0, 0)).2.1 ∧ (spansT.getD i (0, 0, 0)).2.1 ≤ 60000 := by
  have : ∀ i, i < 34 → 0 ≤ (spansT.getD i (0, 0, 0)).2.1 ∧ (spansT.getD i (0, 0, 0)).2.1 ≤ 60000 := by decide
  exact this i hi
theorem span_low (i : Nat) (hi : i < 34) : 0 ≤ (spansT.getD i (0, 0, 0)).1 ∧ (spansT.getD i (0, 0, 0)).1 ≤ 60000 := by
  have : ∀ i, i < 34 → 0 ≤ (spansT.getD i (0, 0, 0)).1 ∧ (spansT.getD i (0, 0, 0)).1 ≤ 60000 := by decide
  exact this i hi
theorem below_mono (r : Int) (a b : Nat) (hab : a ≤ b) (hb : b < 34) (h : belowS r a = true) : belowS r b = true := by
  unfold belowS at *
  rw [decide_eq_true_eq] at *
  rcases Nat.lt_or_ge a b with h1 | h1
  · have hl : spansT.length = 34 := rfl
    have := List.pairwise_iff_getElem.1 spans_rise a b (by omega) (by omega) h1
    rw [List.getD_eq_getElem?_getD, List.getElem?_eq_getElem (by omega)] at *
    simp only [Option.getD_some] at *
    omega
  · obtain rfl : a = b := by omega
    exact h
end Go.Utf
namespace Go.Proofs.YtlfhgmclnapmjaaGreatDoor
open Go.RowKit Go.Utf Go.Shelf Go.Lib Go.Sort

set_option maxRecDepth 100000 in
set_option maxHeartbeats 1000000 in
theorem kind_closure (r : Int) (ba i : Nat) (hi : i < 34) (W : World) (ha : W.cell? ⟨ba, 0, none⟩ = some (.int .i64 r)) (hs : SpansAt W) :
    Calls Tryz.prog 92 (#[.int .i64 i] ++ #[.pointer (some ⟨ba, 0, none⟩)]) W fun e w' => e = .returned (.bool (belowS r i)) ∧ ∃ q, w' = W.drewN q := by
  have hc := (hs i hi).2.1
  have hiz : (i : Int) < 34 := by omega
  have hx := span_high i hi
  unfold belowS
  generalize (spansT.getD i (0, 0, 0)).2.1 = x at hc hx ⊢
  obtain ⟨hx0, hx1⟩ := hx
  clear hs
  go_enter Tryz.func92, Tryz.ntmps92
  go_wp2
  go_region
  all_goals go_wp2
  all_goals go_ret
  all_goals exact ⟨by first | rfl | simp, 1, rfl⟩
set_option maxRecDepth 100000 in
set_option maxHeartbeats 1000000 in
theorem utf_Kind (r : Int) (w : World) (hT : Tabs w) : Calls Tryz.prog 68 #[.int .i64 r] w fun e w' => e = .returned (.int .i64 (kindN r)) ∧ Below w.heap.size w w' := by
  have hbel := Lib.hid (step_new (Below.refl w.heap.size w) (.cells #[.int .i64 r] 3))
  have hc : (w.alloc (.cells #[.int .i64 r] 3)).cell? ⟨w.heap.size, 0, none⟩ = some (.int .i64 r) := by
    rw [Lib.cell_of_heap (heap_alloc_new w _)]; rfl
  have HS := Lib.hid (Any.sort_Search lays16 92 #[.pointer (some ⟨w.heap.size, 0, none⟩)] 34 (belowS r) (w.alloc (.cells #[.int .i64 r] 3)) (enters_of Tryz.func92 (by kernel_rfl) rfl) (by omega)
    (fun m os i hi => by
      have hb : Below (w.alloc (.cells #[.int .i64 r] 3)).heap.size (w.alloc (.cells #[.int .i64 r] 3)) (grow ((w.alloc (.cells #[.int .i64 r] 3)).drewN m) os) := below_grown_sl _ _ _ _ (Nat.le_refl _)
      refine (kind_closure r w.heap.size i hi _ (cell_below hb (by simp) hc) ((hT.below hbel.out).below hb).sp).mono ?_
      rintro e w' ⟨rfl, q, rfl⟩
      exact ⟨rfl, q, #[], by rw [grow_empty]⟩)
    (fun a b hab hb h => below_mono r a b hab hb h))
  rw [show ((List.range 34).countP (fun i => !belowS r i)) = cntS r from rfl] at HS
  have Hk := Lib.hid ((kind_eq r).symm.trans (kindS_at r))
  have HT := Lib.hid hT
  obtain ⟨n, hn⟩ : ∃ n, cntS r = n := ⟨_, rfl⟩
  rw [hn] at HS Hk
  obtain ⟨v, hv⟩ : ∃ v, kindN r = v := ⟨_, rfl⟩
  rw [hv] at Hk ⊢
  clear hn hv hc hT
  go_enter Tryz.func68, Tryz.ntmps68
  go_wp2_with fail
  refine HS.out.mono ?_
  rintro e w1 ⟨rfl, q, os, hw1⟩
  have hb1 : Below (w.alloc (.cells #[.int .i64 r] 3)).heap.size (w.alloc (.cells #[.int .i64 r] 3)) w1 := hw1 ▸ below_grown_sl _ _ _ _ (Nat.le_refl _)
  have hb : Below w.heap.size w w1 := hbel.out.trans (hb1.mono (by simp))
  have hc1 : w1.cell? ⟨w.heap.size, 0, none⟩ = some (.int .i64 r) := cell_below hb1 (by simp) (by rw [Lib.cell_of_heap (heap_alloc_new w _)]; rfl)
  have hsp := (HT.out.below hb).sp
  have Hb := Lib.hid hb
  clear hw1 hb1 hb
  by_cases h34 : n < 34
  · obtain ⟨c0, _, c2⟩ := hsp n h34
    obtain ⟨lo0, lo1⟩ := span_low n h34
    have hk := Hk.out
    rw [if_pos h34] at hk
    generalize (spansT.getD n (0, 0, 0)).1 = x at c0 hk lo0 lo1
    generalize (spansT.getD n (0, 0, 0)).2.2 = y at c2 hk
    have hz : (n : Int) < 34 := by omega
    clear hsp h34
    by_cases hx : x ≤ r
    · rw [if_pos hx] at hk
      subst hk
      go_wp2
      go_region
      all_goals go_wp2
      all_goals go_ret
      all_goals exact ⟨rfl, Hb.out.drew⟩
    · rw [if_neg hx] at hk
      have hx' : r < x := by omega
      subst hk
      clear hx
      go_wp2
      go_region
      all_goals go_wp2
      all_goals go_ret
      all_goals exact ⟨rfl, Hb.out.drew⟩
  · have hk := Hk.out
    rw [if_neg h34] at hk
    have hz : decide ((n : Int) < 34) = false := decide_eq_false (by omega)
    subst hk
    clear hsp h34
    go_wp2
    go_region
    all_goals go_wp2
    all_goals go_ret
    all_goals exact ⟨rfl, Hb.out.drew⟩
end Go.Proofs.YtlfhgmclnapmjaaGreatDoor
namespace Go.Proofs.YtlfhgmclnapmjaaGreatDoor
open Go.RowKit Go.Utf Go.Lib

theorem convR1 (w : World) (x0 : Int) :
    (convert 66 9 (.slice (some ⟨w.heap.size, 0, none⟩) 1 1)).run Tryz.prog (w.alloc (.cells #[.int .u8 x0] 5)) = .ok (.string (strOfNums [x0])) (w.alloc (.cells #[.int .u8 x0] 5)) := by
  refine run_convert_bytes_arg (P := Tryz.prog) _ 66 5 Tryz.underlying66 Tryz.underlying5 w.heap.size 0 1 1 [x0] rfl (fun i hi => ?_) 9 Tryz.underlying9
  have hb : (w.alloc (.cells #[.int .u8 x0] 5)).heap[w.heap.size]? = some (.cells #[.int .u8 x0] 5 (0, 0)) := heap_alloc_new w _
  simp only [World.cell?, hb, Nat.zero_add]
  have : i = 0 := by omega
  rcases this with rfl <;> rfl
theorem convR2 (w : World) (x0 x1 : Int) :
    (convert 66 9 (.slice (some ⟨w.heap.size, 0, none⟩) 2 2)).run Tryz.prog (w.alloc (.cells #[.int .u8 x0, .int .u8 x1] 5)) = .ok (.string (strOfNums [x0, x1])) (w.alloc (.cells #[.int .u8 x0, .int .u8 x1] 5)) := by
  refine run_convert_bytes_arg (P := Tryz.prog) _ 66 5 Tryz.underlying66 Tryz.underlying5 w.heap.size 0 2 2 [x0, x1] rfl (fun i hi => ?_) 9 Tryz.underlying9
  have hb : (w.alloc (.cells #[.int .u8 x0, .int .u8 x1] 5)).heap[w.heap.size]? = some (.cells #[.int .u8 x0, .int .u8 x1] 5 (0, 0)) := heap_alloc_new w _
  simp only [World.cell?, hb, Nat.zero_add]
  have : i = 0 ∨ i = 1 := by omega
  rcases this with rfl | rfl <;> rfl
theorem convR3 (w : World) (x0 x1 x2 : Int) :
    (convert 66 9 (.slice (some ⟨w.heap.size, 0, none⟩) 3 3)).run Tryz.prog (w.alloc (.cells #[.int .u8 x0, .int .u8 x1, .int .u8 x2] 5)) = .ok (.string (strOfNums [x0, x1, x2])) (w.alloc (.cells #[.int .u8 x0, .int .u8 x1, .int .u8 x2] 5)) := by
  refine run_convert_bytes_arg (P := Tryz.prog) _ 66 5 Tryz.underlying66 Tryz.underlying5 w.heap.size 0 3 3 [x0, x1, x2] rfl (fun i hi => ?_) 9 Tryz.underlying9
  have hb : (w.alloc (.cells #[.int .u8 x0, .int .u8 x1, .int .u8 x2] 5)).heap[w.heap.size]? = some (.cells #[.int .u8 x0, .int .u8 x1, .int .u8 x2] 5 (0, 0)) := heap_alloc_new w _
  simp only [World.cell?, hb, Nat.zero_add]
  have : i = 0 ∨ i = 1 ∨ i = 2 := by omega
  rcases this with rfl | rfl | rfl <;> rfl
theorem convR4 (w : World) (x0 x1 x2 x3 : Int) :
    (convert 66 9 (.slice (some ⟨w.heap.size, 0, none⟩) 4 4)).run Tryz.prog (w.alloc (.cells #[.int .u8 x0, .int .u8 x1, .int .u8 x2, .int .u8 x3] 5)) = .ok (.string (strOfNums [x0, x1, x2, x3])) (w.alloc (.cells #[.int .u8 x0, .int .u8 x1, .int .u8 x2, .int .u8 x3] 5)) := by
  refine run_convert_bytes_arg (P := Tryz.prog) _ 66 5 Tryz.underlying66 Tryz.underlying5 w.heap.size 0 4 4 [x0, x1, x2, x3] rfl (fun i hi => ?_) 9 Tryz.underlying9
  have hb : (w.alloc (.cells #[.int .u8 x0, .int .u8 x1, .int .u8 x2, .int .u8 x3] 5)).heap[w.heap.size]? = some (.cells #[.int .u8 x0, .int .u8 x1, .int .u8 x2, .int .u8 x3] 5 (0, 0)) := heap_alloc_new w _
  simp only [World.cell?, hb, Nat.zero_add]
  have : i = 0 ∨ i = 1 ∨ i = 2 ∨ i = 3 := by omega
  rcases this with rfl | rfl | rfl | rfl <;> rfl
theorem str_nums (l : List Int) : strOfNums l = B (l.map fun x => x.toNat.toUInt8) := rfl
theorem runeT_nums {v : Int} {l : List Int} (h : encodeRuneZ v = l) : strOfNums l = B (runeT v) := by
  rw [str_nums]; unfold runeT encodeRune; rw [h]
set_option maxRecDepth 100000 in
set_option maxHeartbeats 1000000 in
theorem bytes_one (v : Int) (h0 : 0 ≤ v) (h1 : v ≤ 127) (w : World) : Calls Tryz.prog 51 #[.int .i64 v] w fun e w' => e = .returned (.string (B (runeT v))) ∧ Below w.heap.size w w' := by
  have hconv := convR1 w
  have Hr := Lib.hid (runeT_nums (encodeRuneZ_one h0 h1))
  go_enter Tryz.func51, Tryz.ntmps51
  go_wp2
  go_ret
  exact ⟨ret_str Hr.out, (Below.refl _ _).alloc (Nat.le_refl _) _⟩
set_option maxRecDepth 100000 in
set_option maxHeartbeats 1000000 in
theorem bytes_two (v : Int) (h0 : 128 ≤ v) (h1 : v ≤ 2047) (w : World) : Calls Tryz.prog 51 #[.int .i64 v] w fun e w' => e = .returned (.string (B (runeT v))) ∧ Below w.heap.size w w' := by
  have hconv := convR2 w
  have Hr := Lib.hid (runeT_nums (encodeRuneZ_two h0 h1))
  go_enter Tryz.func51, Tryz.ntmps51
  go_wp2
  go_ret
  exact ⟨ret_str Hr.out, (Below.refl _ _).alloc (Nat.le_refl _) _⟩
set_option maxRecDepth 100000 in
set_option maxHeartbeats 1000000 in
theorem bytes_three (v : Int) (h0 : 2048 ≤ v) (h1 : v ≤ 65535) (h : v < 55296 ∨ 57343 < v) (w : World) : Calls Tryz.prog 51 #[.int .i64 v] w fun e w' => e = .returned (.string (B (runeT v))) ∧ Below w.heap.size w w' := by
  have hconv := convR3 w
  have Hr := Lib.hid (runeT_nums (encodeRuneZ_three (r := v) (by omega)))
  clear h
  go_enter Tryz.func51, Tryz.ntmps51
  go_wp2
  go_ret
  exact ⟨ret_str Hr.out, (Below.refl _ _).alloc (Nat.le_refl _) _⟩
set_option maxRecDepth 100000 in
set_option maxHeartbeats 1000000 in
theorem bytes_four (v : Int) (h0 : 65536 ≤ v) (h1 : v ≤ 1114111) (w : World) : Calls Tryz.prog 51 #[.int .i64 v] w fun e w' => e = .returned (.string (B (runeT v))) ∧ Below w.heap.size w w' := by
  have hconv := convR4 w
  have Hr := Lib.hid (runeT_nums (encodeRuneZ_four h0 h1))
  go_enter Tryz.func51, Tryz.ntmps51
  go_wp2
  go_ret
  exact ⟨ret_str Hr.out, (Below.refl _ _).alloc (Nat.le_refl _) _⟩
theorem ref10_Bytes (v : Int) (h : isB v = true) (w : World) : Calls Tryz.prog 51 #[.int .i64 v] w fun e w' => e = .returned (.string (B (runeT v))) ∧ Below w.heap.size w w' := by
  rcases isB_cases h with ⟨h0, h1⟩ | ⟨h0, h1⟩ | h | ⟨h0, h1⟩
  · exact bytes_one v h0 h1 w
  · exact bytes_two v h0 h1 w
  · exact bytes_three v (by omega) (by omega) (by omega) w
  · exact bytes_four v h0 h1 w
end Go.Proofs.YtlfhgmclnapmjaaGreatDoor
namespace Go.Utf
open Go.Lib

def offN (m : Nat) : Int := if m = 2 then 192 else if m = 3 then 224 else if m = 4 then 240 else 0
/-- What m bytes would be as a rune, so many bytes behind the first gone through. -/
def candV (l : List UInt8) (m : Nat) : Nat → Int
  | 0 => nth l 0 - offN m
  | i + 1 => 64 * candV l m i + nth l (i + 1) - 128
theorem offN_1 : offN 1 = 0 := rfl
theorem offN_2 : offN 2 = 192 := rfl
theorem offN_3 : offN 3 = 224 := rfl
theorem offN_4 : offN 4 = 240 := rfl
theorem candV_bd (l : List UInt8) (m : Nat) (i : Nat) (hi : i ≤ 3) : -1000000000 ≤ candV l m i ∧ candV l m i ≤ 1000000000 := by
  have h0 := nth_lt l 0; have h1 := nth_lt l 1; have h2 := nth_lt l 2; have h3 := nth_lt l 3
  have ho : 0 ≤ offN m ∧ offN m ≤ 240 := by unfold offN; repeat' split <;> omega
  have : i = 0 ∨ i = 1 ∨ i = 2 ∨ i = 3 := by omega
  rcases this with rfl | rfl | rfl | rfl <;> simp only [candV, Nat.zero_add, Nat.reduceAdd] <;> omega
def candF (l : List UInt8) (m : Nat) : Int := candV l m (m - 1)
/-- Are the first m bytes a rune? -/
def okB (l : List UInt8) (m : Nat) : Bool := decide (m ≤ l.length) && (isB (candF l m) && decide (runeT (candF l m) = l.take m))
theorem cand_rune {v : Int} (hv : isB v = true) (t : List UInt8) : candF (runeT v ++ t) (runeT v).length = v := by
  rcases isB_cases hv with ⟨h0, h1⟩ | ⟨h0, h1⟩ | h | ⟨h0, h1⟩
  · rw [runeT_one h0 h1]
    show candV _ 1 0 = v
    simp only [candV, List.cons_append, nth_cons_zero, offN_1, nat_u8 v (by omega) (by omega)]
    omega
  · rw [runeT_two h0 h1]
    show candV _ 2 1 = v
    simp only [candV, List.cons_append, nth_cons_zero, nth_cons_succ, offN_2, nat_u8 (192 + v / 64) (by omega) (by omega), nat_u8 (128 + v % 64) (by omega) (by omega)]
    omega
  · rw [runeT_three h]
    show candV _ 3 2 = v
    simp only [candV, List.cons_append, nth_cons_zero, nth_cons_succ, offN_3, nat_u8 (224 + v / 4096) (by omega) (by omega), nat_u8 (128 + v / 64 % 64) (by omega) (by omega), nat_u8 (128 + v % 64) (by omega) (by omega)]
    omega
  · rw [runeT_four h0 h1]
    show candV _ 4 3 = v
    simp only [candV, List.cons_append, nth_cons_zero, nth_cons_succ, offN_4, nat_u8 (240 + v / 262144) (by omega) (by omega), nat_u8 (128 + v / 4096 % 64) (by omega) (by omega), nat_u8 (128 + v / 64 % 64) (by omega) (by omega), nat_u8 (128 + v % 64) (by omega) (by omega)]
    omega
theorem ok_read {l : List UInt8} {m : Nat} (h : okB l m = true) : readL l = (candF l m, m) ∧ isB (candF l m) = true := by
  unfold okB at h
  rw [Bool.and_eq_true, Bool.and_eq_true, decide_eq_true_eq, decide_eq_true_eq] at h
  obtain ⟨h1, h2, h3⟩ := h
  refine ⟨?_, h2⟩
  have hm : (runeT (candF l m)).length = m := by rw [h3, List.length_take]; omega
  have := read_rune h2 (l.drop m)
  rw [h3, List.take_append_drop] at this
  rw [this, List.length_take]
  congr 1; omega
theorem read_bad_ok {l : List UInt8} (h : readL l = (-1, 1)) (m : Nat) : okB l m = false := by
  cases e : okB l m with
  | false => rfl
  | true =>
    obtain ⟨h1, h2⟩ := ok_read e
    rw [h] at h1
    rw [isB_iff] at h2
    have := congrArg Prod.fst h1
    simp only at this; omega
theorem read_ok {l : List UInt8} (hl : l ≠ []) : readL l = (-1, 1) ∨ (okB l (readL l).2 = true ∧ 1 ≤ (readL l).2 ∧ (readL l).2 ≤ 4 ∧ (readL l).2 ≤ l.length) := by
  rcases read_cases hl with e | ⟨v, n, e, hv, hn, h2⟩
  · exact .inl e
  · refine .inr ?_
    have hle := readL_le hl
    rw [e] at hle ⊢
    simp only at hle ⊢
    have h4 := runeT_length v
    refine ⟨?_, by omega, by omega, hle⟩
    have hc : candF l n = v := by rw [h2, hn]; exact cand_rune hv _
    unfold okB
    rw [hc, hv, take_rune hn h2, decide_eq_true hle, decide_eq_true rfl]; rfl
/-- None of the shorter ones is a rune: when all are gone through there is none. -/
theorem read_end {l : List UInt8} (hl : l ≠ []) (k : Nat) (hk : 4 < k ∨ l.length < k) (h : ∀ m, 1 ≤ m → m < k → okB l m = false) : readL l = (-1, 1) := by
  rcases read_ok hl with e | ⟨h1, h2, h3, h4⟩
  · exact e
  · have := h _ h2 (by omega)
    rw [h1] at this; cases this
end Go.Utf
namespace Go.Proofs.YtlfhgmclnapmjaaGreatDoor
open Go.RowKit Go.Utf Go.Lib

theorem nth_get_s (s : ByteArray) (i : Nat) (h : i < s.size) : (nth (L s) i : Int) = ((s[i].toNat : Nat) : Int) := by
  rw [nth_get (by rw [length_L]; exact h), get_L s i h]
theorem candV_zero (l : List UInt8) (m : Nat) : candV l m 0 = nth l 0 - offN m := rfl
theorem candV_step (s : ByteArray) (m i : Nat) (h : i + 1 < s.size) : candV (L s) m (i + 1) = 64 * candV (L s) m i + ((s[i + 1].toNat : Nat) : Int) - 128 := by
  rw [← nth_get_s s (i + 1) h]; rfl
def ReadV (p : Int × Nat) : Ending := .returned (.tuple #[.int .i64 p.1, .int .i64 (p.2 : Nat)])
/-- None of the lengths below k is a rune's. -/
def NoneB (l : List UInt8) (k : Nat) : Prop := ∀ m, 1 ≤ m → m < k → okB l m = false
theorem noneB_one (l : List UInt8) : NoneB l 1 := fun m h1 h2 => by omega
theorem noneB_step {l : List UInt8} {k : Nat} (h : NoneB l k) (hk : okB l k = false) : NoneB l (k + 1) := by
  intro m h1 h2
  by_cases e : m = k
  · rw [e]; exact hk
  · exact h m h1 (by omega)
set_option maxRecDepth 100000 in
set_option maxHeartbeats 3200000 in
theorem ref10_Rune (s : ByteArray) (hs : s.size ≤ 9223372036854775807) (w : World) :
    Calls Tryz.prog 49 #[.string s] w fun e w' => e = ReadV (readL (L s)) ∧ Below w.heap.size w w' := by
  by_cases h0 : L s = []
  · have he : s.toList.isEmpty = true := by rw [toList_L, h0]; rfl
    rw [h0]
    go_enter Tryz.func49, Tryz.ntmps49
    go_wp2
    go_ret2
    exact ⟨rfl, Below.refl _ _⟩
  have he : s.toList.isEmpty = false := by rw [toList_L]; simpa using h0
  have Hne := Lib.hid h0
  have hpos : 0 < s.size := by
    rcases Nat.eq_zero_or_pos s.size with h | h
    · exact absurd (List.eq_nil_of_length_eq_zero (by rw [length_L]; exact h)) h0
    · exact h
  clear h0
  go_enter Tryz.func49, Tryz.ntmps49
  go_wp2
  go_loopw [4] (fun x4 wr => ∃ k : Nat, 1 ≤ k ∧ k ≤ 5 ∧ x4 = .int .i64 k ∧ NoneB (L s) k ∧ Below w.heap.size w wr) (fun x4 _ => 5 - (intOf x4).toNat)
  case atStart => exact ⟨1, by omega, by omega, rfl, noneB_one _, Below.refl _ _⟩
  case round =>
    obtain ⟨k, hk1, hk5, rfl, hno, hb⟩ := hrel
    have Hno := Lib.hid hno
    have Hb := Lib.hid hb
    clear hno
    by_cases hk : k ≤ 4 ∧ k ≤ s.size
    · obtain ⟨hk4, hks⟩ := hk
      have hz4 : (k : Int) ≤ 4 := by omega
      have hzs : (k : Int) ≤ (s.size : Int) := by omega
      have h1234 : k = 1 ∨ k = 2 ∨ k = 3 ∨ k = 4 := by omega
      rcases h1234 with h | h | h | h
      · have HO : Hid (offN k = 0) := Lib.hid (by rw [h]; rfl)
        have t2 : ((k : Int) == 2) = false := by rw [h]; rfl
        have t3 : ((k : Int) == 3) = false := by rw [h]; rfl
        have t4 : ((k : Int) == 4) = false := by rw [h]; rfl
        clear h
        have g0 := nth_get_s s 0 hpos
        have hb0 := s[0].toNat_lt
        go_wp2
        go_loop [5, 6] (fun x5 x6 => ∃ i : Nat, 1 ≤ i ∧ i ≤ k ∧ x6 = .int .i64 i ∧ x5 = .int .i64 (candV (L s) k (i - 1))) (fun _ x6 => k - (intOf x6).toNat)
        case atStart => exact ⟨1, by omega, hk1, rfl, by rw [Nat.sub_self, candV_zero, HO.out, g0] <;> first | rfl | simp⟩
        case round =>
          obtain ⟨i, hi1, hik, rfl, rfl⟩ := hrel
          obtain ⟨p, rfl⟩ : ∃ p, i = p + 1 := ⟨i - 1, by omega⟩
          rw [Nat.add_sub_cancel]
          obtain ⟨c1, c2⟩ := candV_bd (L s) k p (by omega)
          by_cases hip : p + 1 < k
          · have st := candV_step s k p (by omega)
            have hix : ((p : Int) + 1) < (s.size : Int) := by omega
            have hb1 := (s[p + 1]'(by omega)).toNat_lt
            have St := Lib.hid st
            generalize candV (L s) k p = c at c1 c2 St ⊢
            clear st g0
            go_wp2
            go_round
            case rel => exact ⟨p + 2, by omega, by omega, by go_num, by rw [show p + 2 - 1 = p + 1 by omega, St.out]⟩
            case measure => simp [intOf]; omega
          · obtain rfl : k = p + 1 := by omega
            have hF : Hid (candF (L s) (p + 1) = candV (L s) (p + 1) p) := Lib.hid rfl
            have hok : Hid (okB (L s) (p + 1) = (decide (p + 1 ≤ (L s).length) && (isB (candF (L s) (p + 1)) && decide (runeT (candF (L s) (p + 1)) = (L s).take (p + 1))))) := Lib.hid rfl
            have Hrd := Lib.hid (ok_read (l := L s) (m := p + 1))
            rw [hF.out] at hok Hrd
            generalize candV (L s) (p + 1) p = c at c1 c2 hok Hrd ⊢
            have Hlen : Hid (decide (p + 1 ≤ (L s).length) = true) := Lib.hid (by rw [length_L]; exact decide_eq_true (by omega))
            have Hno2 := Lib.hid (noneB_step (k := p + 1) Hno.out)
            clear g0
            cases his : isB c with
            | false =>
              have Hfin := Lib.hid (Hno2.out (by rw [hok.out, his]; simp))
              have Hcon := Lib.hid (ref10_Is c wr)
              rw [his] at Hcon
              clear his hok
              go_wp2_with (go_at_call 80; refine Hcon.out.mono ?_; rintro e w1 ⟨rfl, rfl⟩)
              go_region
              all_goals
                go_wp2
                go_roundw
                case rel => exact ⟨p + 2, by omega, by omega, by go_num, Hfin.out, Hb.out.drew⟩
                case measure => simp [intOf]; omega
            | true =>
              have Hcon := Lib.hid (ref10_Is c wr)
              rw [his] at Hcon
              have Hby := Lib.hid (fun w => ref10_Bytes c his w)
              have q4 : p + 1 ≤ s.size := by omega
              have ht : ((B (runeT c)).toList == (s.extract 0 (p + 1)).toList) = decide (runeT c = (L s).take (p + 1)) := by
                rw [str_eq, L_B, L_extract]; simp
              rw [his, Hlen.out, Bool.true_and, Bool.true_and] at hok
              by_cases heq : runeT c = (L s).take (p + 1)
              · rw [decide_eq_true heq] at ht hok
                have Hres := Lib.hid (Hrd.out hok.out).1
                clear his hok heq
                go_wp2_with (go_at_call 80; refine Hcon.out.mono ?_; rintro e w1 ⟨rfl, rfl⟩)
                go_region_with (go_at_call 51; refine (Hby.out _).mono ?_; rintro e w1 ⟨rfl, hb1⟩)
                all_goals
                  go_wp2
                  go_ret2
                  exact ⟨by rw [Hres.out]; rfl, Hb.out.drew.trans (hb1.mono Hb.out.size)⟩
              · rw [decide_eq_false heq] at ht hok
                have Hfin := Lib.hid (Hno2.out hok.out)
                clear his hok heq
                go_wp2_with (go_at_call 80; refine Hcon.out.mono ?_; rintro e w1 ⟨rfl, rfl⟩)
                go_region_with (go_at_call 51; refine (Hby.out _).mono ?_; rintro e w1 ⟨rfl, hb1⟩)
                all_goals
                  go_wp2
                  go_roundw
                  case rel => exact ⟨p + 2, by omega, by omega, by go_num, Hfin.out, Hb.out.drew.trans (hb1.mono Hb.out.size)⟩
                  case measure => simp [intOf]; omega
      · have HO : Hid (offN k = 192) := Lib.hid (by rw [h]; rfl)
        have t2 : ((k : Int) == 2) = true := by rw [h]; rfl
        have t3 : ((k : Int) == 3) = false := by rw [h]; rfl
        have t4 : ((k : Int) == 4) = false := by rw [h]; rfl
        clear h
        have g0 := nth_get_s s 0 hpos
        have hb0 := s[0].toNat_lt
        go_wp2
        go_loop [5, 6] (fun x5 x6 => ∃ i : Nat, 1 ≤ i ∧ i ≤ k ∧ x6 = .int .i64 i ∧ x5 = .int .i64 (candV (L s) k (i - 1))) (fun _ x6 => k - (intOf x6).toNat)
        case atStart => exact ⟨1, by omega, hk1, rfl, by rw [Nat.sub_self, candV_zero, HO.out, g0] <;> first | rfl | simp⟩
        case round =>
          obtain ⟨i, hi1, hik, rfl, rfl⟩ := hrel
          obtain ⟨p, rfl⟩ : ∃ p, i = p + 1 := ⟨i - 1, by omega⟩
          rw [Nat.add_sub_cancel]
          obtain ⟨c1, c2⟩ := candV_bd (L s) k p (by omega)
          by_cases hip : p + 1 < k
          · have st := candV_step s k p (by omega)
            have hix : ((p : Int) + 1) < (s.size : Int) := by omega
            have hb1 := (s[p + 1]'(by omega)).toNat_lt
            have St := Lib.hid st
            generalize candV (L s) k p = c at c1 c2 St ⊢
            clear st g0
            go_wp2
            go_round
            case rel => exact ⟨p + 2, by omega, by omega, by go_num, by rw [show p + 2 - 1 = p + 1 by omega, St.out]⟩
            case measure => simp [intOf]; omega
          · obtain rfl : k = p + 1 := by omega
            have hF : Hid (candF (L s) (p + 1) = candV (L s) (p + 1) p) := Lib.hid rfl
            have hok : Hid (okB (L s) (p + 1) = (decide (p + 1 ≤ (L s).length) && (isB (candF (L s) (p + 1)) && decide (runeT (candF (L s) (p + 1)) = (L s).take (p + 1))))) := Lib.hid rfl
            have Hrd := Lib.hid (ok_read (l := L s) (m := p + 1))
            rw [hF.out] at hok Hrd
            generalize candV (L s) (p + 1) p = c at c1 c2 hok Hrd ⊢
            have Hlen : Hid (decide (p + 1 ≤ (L s).length) = true) := Lib.hid (by rw [length_L]; exact decide_eq_true (by omega))
            have Hno2 := Lib.hid (noneB_step (k := p + 1) Hno.out)
            clear g0
            cases his : isB c with
            | false =>
              have Hfin := Lib.hid (Hno2.out (by rw [hok.out, his]; simp))
              have Hcon := Lib.hid (ref10_Is c wr)
              rw [his] at Hcon
              clear his hok
              go_wp2_with (go_at_call 80; refine Hcon.out.mono ?_; rintro e w1 ⟨rfl, rfl⟩)
              go_region
              all_goals
                go_wp2
                go_roundw
                case rel => exact ⟨p + 2, by omega, by omega, by go_num, Hfin.out, Hb.out.drew⟩
                case measure => simp [intOf]; omega
            | true =>
              have Hcon := Lib.hid (ref10_Is c wr)
              rw [his] at Hcon
              have Hby := Lib.hid (fun w => ref10_Bytes c his w)
              have q4 : p + 1 ≤ s.size := by omega
              have ht : ((B (runeT c)).toList == (s.extract 0 (p + 1)).toList) = decide (runeT c = (L s).take (p + 1)) := by
                rw [str_eq, L_B, L_extract]; simp
              rw [his, Hlen.out, Bool.true_and, Bool.true_and] at hok
              by_cases heq : runeT c = (L s).take (p + 1)
              · rw [decide_eq_true heq] at ht hok
                have Hres := Lib.hid (Hrd.out hok.out).1
                clear his hok heq
                go_wp2_with (go_at_call 80; refine Hcon.out.mono ?_; rintro e w1 ⟨rfl, rfl⟩)
                go_region_with (go_at_call 51; refine (Hby.out _).mono ?_; rintro e w1 ⟨rfl, hb1⟩)
                all_goals
                  go_wp2
                  go_ret2
                  exact ⟨by rw [Hres.out]; rfl, Hb.out.drew.trans (hb1.mono Hb.out.size)⟩
              · rw [decide_eq_false heq] at ht hok
                have Hfin := Lib.hid (Hno2.out hok.out)
                clear his hok heq
                go_wp2_with (go_at_call 80; refine Hcon.out.mono ?_; rintro e w1 ⟨rfl, rfl⟩)
                go_region_with (go_at_call 51; refine (Hby.out _).mono ?_; rintro e w1 ⟨rfl, hb1⟩)
                all_goals
                  go_wp2
                  go_roundw
                  case rel => exact ⟨p + 2, by omega, by omega, by go_num, Hfin.out, Hb.out.drew.trans (hb1.mono Hb.out.size)⟩
                  case measure => simp [intOf]; omega
      · have HO : Hid (offN k = 224) := Lib.hid (by rw [h]; rfl)
        have t2 : ((k : Int) == 2) = false := by rw [h]; rfl
        have t3 : ((k : Int) == 3) = true := by rw [h]; rfl
        have t4 : ((k : Int) == 4) = false := by rw [h]; rfl
        clear h
        have g0 := nth_get_s s 0 hpos
        have hb0 := s[0].toNat_lt
        go_wp2
        go_loop [5, 6] (fun x5 x6 => ∃ i : Nat, 1 ≤ i ∧ i ≤ k ∧ x6 = .int .i64 i ∧ x5 = .int .i64 (candV (L s) k (i - 1))) (fun _ x6 => k - (intOf x6).toNat)
        case atStart => exact ⟨1, by omega, hk1, rfl, by rw [Nat.sub_self, candV_zero, HO.out, g0] <;> first | rfl | simp⟩
        case round =>
          obtain ⟨i, hi1, hik, rfl, rfl⟩ := hrel
          obtain ⟨p, rfl⟩ : ∃ p, i = p + 1 := ⟨i - 1, by omega⟩
          rw [Nat.add_sub_cancel]
          obtain ⟨c1, c2⟩ := candV_bd (L s) k p (by omega)
          by_cases hip : p + 1 < k
          · have st := candV_step s k p (by omega)
            have hix : ((p : Int) + 1) < (s.size : Int) := by omega
            have hb1 := (s[p + 1]'(by omega)).toNat_lt
            have St := Lib.hid st
            generalize candV (L s) k p = c at c1 c2 St ⊢
            clear st g0
            go_wp2
            go_round
            case rel => exact ⟨p + 2, by omega, by omega, by go_num, by rw [show p + 2 - 1 = p + 1 by omega, St.out]⟩
            case measure => simp [intOf]; omega
          · obtain rfl : k = p + 1 := by omega
            have hF : Hid (candF (L s) (p + 1) = candV (L s) (p + 1) p) := Lib.hid rfl
            have hok : Hid (okB (L s) (p + 1) = (decide (p + 1 ≤ (L s).length) && (isB (candF (L s) (p + 1)) && decide (runeT (candF (L s) (p + 1)) = (L s).take (p + 1))))) := Lib.hid rfl
            have Hrd := Lib.hid (ok_read (l := L s) (m := p + 1))
            rw [hF.out] at hok Hrd
            generalize candV (L s) (p + 1) p = c at c1 c2 hok Hrd ⊢
            have Hlen : Hid (decide (p + 1 ≤ (L s).length) = true) := Lib.hid (by rw [length_L]; exact decide_eq_true (by omega))
            have Hno2 := Lib.hid (noneB_step (k := p + 1) Hno.out)
            clear g0
            cases his : isB c with
            | false =>
              have Hfin := Lib.hid (Hno2.out (by rw [hok.out, his]; simp))
              have Hcon := Lib.hid (ref10_Is c wr)
              rw [his] at Hcon
              clear his hok
              go_wp2_with (go_at_call 80; refine Hcon.out.mono ?_; rintro e w1 ⟨rfl, rfl⟩)
              go_region
              all_goals
                go_wp2
                go_roundw
                case rel => exact ⟨p + 2, by omega, by omega, by go_num, Hfin.out, Hb.out.drew⟩
                case measure => simp [intOf]; omega
            | true =>
              have Hcon := Lib.hid (ref10_Is c wr)
              rw [his] at Hcon
              have Hby := Lib.hid (fun w => ref10_Bytes c his w)
              have q4 : p + 1 ≤ s.size := by omega
              have ht : ((B (runeT c)).toList == (s.extract 0 (p + 1)).toList) = decide (runeT c = (L s).take (p + 1)) := by
                rw [str_eq, L_B, L_extract]; simp
              rw [his, Hlen.out, Bool.true_and, Bool.true_and] at hok
              by_cases heq : runeT c = (L s).take (p + 1)
              · rw [decide_eq_true heq] at ht hok
                have Hres := Lib.hid (Hrd.out hok.out).1
                clear his hok heq
                go_wp2_with (go_at_call 80; refine Hcon.out.mono ?_; rintro e w1 ⟨rfl, rfl⟩)
                go_region_with (go_at_call 51; refine (Hby.out _).mono ?_; rintro e w1 ⟨rfl, hb1⟩)
                all_goals
                  go_wp2
                  go_ret2
                  exact ⟨by rw [Hres.out]; rfl, Hb.out.drew.trans (hb1.mono Hb.out.size)⟩
              · rw [decide_eq_false heq] at ht hok
                have Hfin := Lib.hid (Hno2.out hok.out)
                clear his hok heq
                go_wp2_with (go_at_call 80; refine Hcon.out.mono ?_; rintro e w1 ⟨rfl, rfl⟩)
                go_region_with (go_at_call 51; refine (Hby.out _).mono ?_; rintro e w1 ⟨rfl, hb1⟩)
                all_goals
                  go_wp2
                  go_roundw
                  case rel => exact ⟨p + 2, by omega, by omega, by go_num, Hfin.out, Hb.out.drew.trans (hb1.mono Hb.out.size)⟩
                  case measure => simp [intOf]; omega
      · have HO : Hid (offN k = 240) := Lib.hid (by rw [h]; rfl)
        have t2 : ((k : Int) == 2) = false := by rw [h]; rfl
        have t3 : ((k : Int) == 3) = false := by rw [h]; rfl
        have t4 : ((k : Int) == 4) = true := by rw [h]; rfl
        clear h
        have g0 := nth_get_s s 0 hpos
        have hb0 := s[0].toNat_lt
        go_wp2
        go_loop [5, 6] (fun x5 x6 => ∃ i : Nat, 1 ≤ i ∧ i ≤ k ∧ x6 = .int .i64 i ∧ x5 = .int .i64 (candV (L s) k (i - 1))) (fun _ x6 => k - (intOf x6).toNat)
        case atStart => exact ⟨1, by omega, hk1, rfl, by rw [Nat.sub_self, candV_zero, HO.out, g0] <;> first | rfl | simp⟩
        case round =>
          obtain ⟨i, hi1, hik, rfl, rfl⟩ := hrel
          obtain ⟨p, rfl⟩ : ∃ p, i = p + 1 := ⟨i - 1, by omega⟩
          rw [Nat.add_sub_cancel]
          obtain ⟨c1, c2⟩ := candV_bd (L s) k p (by omega)
          by_cases hip : p + 1 < k
          · have st := candV_step s k p (by omega)
            have hix : ((p : Int) + 1) < (s.size : Int) := by omega
            have hb1 := (s[p + 1]'(by omega)).toNat_lt
            have St := Lib.hid st
            generalize candV (L s) k p = c at c1 c2 St ⊢
            clear st g0
            go_wp2
            go_round
            case rel => exact ⟨p + 2, by omega, by omega, by go_num, by rw [show p + 2 - 1 = p + 1 by omega, St.out]⟩
            case measure => simp [intOf]; omega
          · obtain rfl : k = p + 1 := by omega
            have hF : Hid (candF (L s) (p + 1) = candV (L s) (p + 1) p) := Lib.hid rfl
            have hok : Hid (okB (L s) (p + 1) = (decide (p + 1 ≤ (L s).length) && (isB (candF (L s) (p + 1)) && decide (runeT (candF (L s) (p + 1)) = (L s).take (p + 1))))) := Lib.hid rfl
            have Hrd := Lib.hid (ok_read (l := L s) (m := p + 1))
            rw [hF.out] at hok Hrd
            generalize candV (L s) (p + 1) p = c at c1 c2 hok Hrd ⊢
            have Hlen : Hid (decide (p + 1 ≤ (L s).length) = true) := Lib.hid (by rw [length_L]; exact decide_eq_true (by omega))
            have Hno2 := Lib.hid (noneB_step (k := p + 1) Hno.out)
            clear g0
            cases his : isB c with
            | false =>
              have Hfin := Lib.hid (Hno2.out (by rw [hok.out, his]; simp))
              have Hcon := Lib.hid (ref10_Is c wr)
              rw [his] at Hcon
              clear his hok
              go_wp2_with (go_at_call 80; refine Hcon.out.mono ?_; rintro e w1 ⟨rfl, rfl⟩)
              go_region
              all_goals
                go_wp2
                go_roundw
                case rel => exact ⟨p + 2, by omega, by omega, by go_num, Hfin.out, Hb.out.drew⟩
                case measure => simp [intOf]; omega
            | true =>
              have Hcon := Lib.hid (ref10_Is c wr)
              rw [his] at Hcon
              have Hby := Lib.hid (fun w => ref10_Bytes c his w)
              have q4 : p + 1 ≤ s.size := by omega
              have ht : ((B (runeT c)).toList == (s.extract 0 (p + 1)).toList) = decide (runeT c = (L s).take (p + 1)) := by
                rw [str_eq, L_B, L_extract]; simp
              rw [his, Hlen.out, Bool.true_and, Bool.true_and] at hok
              by_cases heq : runeT c = (L s).take (p + 1)
              · rw [decide_eq_true heq] at ht hok
                have Hres := Lib.hid (Hrd.out hok.out).1
                clear his hok heq
                go_wp2_with (go_at_call 80; refine Hcon.out.mono ?_; rintro e w1 ⟨rfl, rfl⟩)
                go_region_with (go_at_call 51; refine (Hby.out _).mono ?_; rintro e w1 ⟨rfl, hb1⟩)
                all_goals
                  go_wp2
                  go_ret2
                  exact ⟨by rw [Hres.out]; rfl, Hb.out.drew.trans (hb1.mono Hb.out.size)⟩
              · rw [decide_eq_false heq] at ht hok
                have Hfin := Lib.hid (Hno2.out hok.out)
                clear his hok heq
                go_wp2_with (go_at_call 80; refine Hcon.out.mono ?_; rintro e w1 ⟨rfl, rfl⟩)
                go_region_with (go_at_call 51; refine (Hby.out _).mono ?_; rintro e w1 ⟨rfl, hb1⟩)
                all_goals
                  go_wp2
                  go_roundw
                  case rel => exact ⟨p + 2, by omega, by omega, by go_num, Hfin.out, Hb.out.drew.trans (hb1.mono Hb.out.size)⟩
                  case measure => simp [intOf]; omega
    · have hend := Lib.hid (read_end Hne.out k (by rw [length_L]; omega) Hno.out)
      by_cases hk4 : k ≤ 4
      · have hz : (s.size : Int) < (k : Int) := by omega
        go_wp2
        go_ret2
        exact ⟨by rw [hend.out]; rfl, Hb.out⟩
      · have hz : (4 : Int) < (k : Int) := by omega
        go_wp2
        go_ret2
        exact ⟨by rw [hend.out]; rfl, Hb.out⟩
end Go.Proofs.YtlfhgmclnapmjaaGreatDoor
namespace Go.Utf
open Go.Lib
theorem readL_decode (s : ByteArray) : readL s.data.toList = fixR (decodeGo s) := by
  obtain ⟨⟨l⟩⟩ := s
  cases l with
  | nil => rfl
  | cons b l =>
    have : decodeGo ⟨⟨b :: l⟩⟩ = Utf8.decode ⟨⟨b :: l⟩⟩ 0 := if_neg (by simp [ByteArray.size])
    rw [this]; rfl
theorem decodeL_read (l : List UInt8) (h : l ≠ []) : readL l = fixR (decodeL l) := by
  cases l with
  | nil => exact absurd rfl h
  | cons b l => rfl
theorem fixR_snd (d : Nat × Nat) : (fixR d).2 = d.2 := by unfold fixR; split <;> rfl
theorem validGo_eq : ∀ n l, l.length ≤ n → validGoD n l = validL l := by
  intro n
  induction n with
  | zero =>
    intro l hl
    obtain rfl : l = [] := List.eq_nil_of_length_eq_zero (by omega)
    unfold validL; rw [chunks_nil]; rfl
  | succ n ih =>
    intro l hl
    by_cases h : l = []
    · subst h; unfold validL; rw [chunks_nil]; rfl
    · have hr := decodeL_read l h
      have hpos := readL_pos h
      have hw : (decodeL l).2 = (readL l).2 := by rw [hr, fixR_snd]
      unfold validGoD
      rw [if_neg h]
      have hv : validL l = (decide (0 ≤ (readL l).1) && validL (l.drop (readL l).2)) := by
        unfold validL; rw [chunks_cons h, List.all_cons]
      rw [hv]
      by_cases hb : (decodeL l).1 = 65533 ∧ (decodeL l).2 = 1
      · rw [if_pos hb]
        have : (readL l).1 = -1 := by rw [hr]; unfold fixR; rw [if_pos (by omega)]
        rw [this]; rfl
      · rw [if_neg hb, hw]
        have : (readL l).1 ≠ -1 := by
          intro e
          rcases read_cases h with e1 | ⟨v, k, e1, hv, _⟩
          · have h1 : (readL l).2 = 1 := by rw [e1]
            rw [hr] at e
            unfold fixR at e
            split at e
            · rename_i hc; omega
            · simp only at e; omega
          · rw [e1] at e; rw [isB_iff] at hv; simp only at e; omega
        have h0 : 0 ≤ (readL l).1 := by
          rcases readL_is h with e | e
          · exact absurd e this
          · rw [isB_iff] at e; omega
        rw [decide_eq_true h0, Bool.true_and]
        exact ih _ (by have := drop_lt h; omega)
theorem validD_eq (l : List UInt8) : validD l = validL l := validGo_eq _ _ (Nat.le_refl _)
/-- A rune, or U+FFFD, if it is none. -/
def fixN (r : Int) : Int := if isB r then r else 65533
theorem fixN_is (r : Int) : isB (fixN r) = true := by unfold fixN; split <;> first | assumption | rfl
theorem runeT_fix (r : Int) : runeT (fixN r) = runeT r := by
  unfold fixN
  split
  · rfl
  · rename_i h
    rw [isB_iff] at h
    unfold runeT encodeRune
    rw [encodeRuneZ_bad (r := r) (by omega)]; rfl
theorem encode_eq {v : Int} (h : isB v = true) : Utf8.encode v = ⟨(runeT v).toArray⟩ := by
  have hv : Utf8.valid v = true := by rw [isB_iff] at h; unfold Utf8.valid; simp; omega
  unfold Utf8.encode
  rw [hv]
  simp only [if_true]
  have e : ∀ x : Int, 0 ≤ x → ∀ n : Nat, (n : Int) = x → UInt8.ofNat n = x.toNat.toUInt8 := by
    intro x _ n hn; subst hn; rfl
  rcases isB_cases h with ⟨h0, h1⟩ | ⟨h0, h1⟩ | h2 | ⟨h0, h1⟩
  · rw [runeT_one h0 h1, if_pos (by omega)]
  · rw [runeT_two h0 h1, if_neg (by omega), if_pos (by omega), e (192 + v / 64) (by omega) _ (by omega), e (128 + v % 64) (by omega) _ (by omega)]
  · rw [runeT_three h2, if_neg (by omega), if_neg (by omega), if_pos (by omega), e (224 + v / 4096) (by omega) _ (by omega), e (128 + v / 64 % 64) (by omega) _ (by omega), e (128 + v % 64) (by omega) _ (by omega)]
  · rw [runeT_four h0 h1, if_neg (by omega), if_neg (by omega), if_neg (by omega), e (240 + v / 262144) (by omega) _ (by omega), e (128 + v / 4096 % 64) (by omega) _ (by omega), e (128 + v / 64 % 64) (by omega) _ (by omega), e (128 + v % 64) (by omega) _ (by omega)]
end Go.Utf
namespace Go.Proofs.YtlfhgmclnapmjaaGreatDoor
open Go.RowKit Go.Utf Go.Lib Go.Shelf

set_option maxRecDepth 100000 in
set_option maxHeartbeats 1000000 in
theorem utf_Rune (s : ByteArray) (w : World) (hT : Tabs w) :
    Calls Tryz.prog 85 #[.string s] w fun e w' => e = ReadV (readL (L s)) ∧ Below w.heap.size w w' := by
  have HD := Lib.hid (Any.utf8_DecodeRuneInString uren_197 s w hT.u8)
  have hr : readL (L s) = fixR (decodeGo s) := readL_decode s
  have hle : (decodeGo s).1 ≤ 1114111 := by
    unfold decodeGo
    split
    · decide
    · exact rune_le _ _
  rw [hr]
  generalize decodeGo s = d at HD hle ⊢
  obtain ⟨R, K⟩ := d
  simp only at HD hle
  by_cases h1 : R = 65533
  · have e1 : ((R : Int) == 65533) = true := by subst h1; rfl
    by_cases h2 : K < 3
    · have e : fixR (R, K) = (-1, K) := if_pos ⟨h1, h2⟩
      rw [e]
      clear h1 hr e
      go_enter Tryz.func85, Tryz.ntmps85
      go_wp2_with (go_at_call 99; refine HD.out.mono ?_; rintro e w1 ⟨rfl, hb⟩)
      go_ret2
      exact ⟨rfl, hb⟩
    · have e : fixR (R, K) = ((R : Int), K) := fixR_no (by omega)
      rw [e]
      have h3 : (3 : Int) ≤ (K : Int) := by omega
      have hR : (R : Int) ≤ 65533 := by omega
      clear h1 hr e h2
      go_enter Tryz.func85, Tryz.ntmps85
      go_wp2_with (go_at_call 99; refine HD.out.mono ?_; rintro e w1 ⟨rfl, hb⟩)
      go_ret2
      exact ⟨rfl, hb⟩
  · have e1 : ((R : Int) == 65533) = false := by rw [beq_eq_false_iff_ne]; omega
    have e : fixR (R, K) = ((R : Int), K) := fixR_no (by omega)
    have hR : (R : Int) ≤ 1114111 := by omega
    rw [e]
    clear h1 hr e
    go_enter Tryz.func85, Tryz.ntmps85
    go_wp2_with (go_at_call 99; refine HD.out.mono ?_; rintro e w1 ⟨rfl, hb⟩)
    go_ret2
    exact ⟨rfl, hb⟩
set_option maxRecDepth 100000 in
set_option maxHeartbeats 1000000 in
theorem utf_Valid (s : ByteArray) (hs : s.size ≤ 9223372036854775807) (w : World) (hT : Tabs w) :
    Calls Tryz.prog 66 #[.string s] w fun e w' => e = .returned (.bool (validL (L s))) ∧ Below w.heap.size w w' := by
  have HD := Lib.hid (Any.utf8_ValidString uren_196 s w hs hT.u8)
  rw [show Lib.validD s.data.toList = validL (L s) from validD_eq _] at HD
  go_enter Tryz.func66, Tryz.ntmps66
  go_wp2_with (go_at_call 90; refine HD.out.mono ?_; rintro e w1 ⟨rfl, hb⟩)
  go_ret
  exact ⟨rfl, hb⟩
theorem ret_i32 {a b : Int} (h : a = b) : Ending.returned (.int .i32 a) = .returned (.int .i32 b) := by rw [h]
set_option maxRecDepth 100000 in
set_option maxHeartbeats 1000000 in
theorem utf_runeOf (r : Int) (w : World) :
    Calls Tryz.prog 59 #[.int .i64 r] w fun e w' => e = .returned (.int .i32 (fixN r)) ∧ w = w' := by
  obtain ⟨v, hv⟩ : ∃ v, fixN r = v := ⟨_, rfl⟩
  rw [hv]
  have Hv := Lib.hid hv
  clear hv
  by_cases h0 : r < 0
  · have hf : Hid (fixN r = 65533) := Lib.hid (by unfold fixN; rw [if_neg]; rw [isB_iff]; omega)
    go_enter Tryz.func59, Tryz.ntmps59
    go_wp2
    go_ret
    exact ⟨ret_i32 (by rw [← Hv.out, hf.out]), rfl⟩
  by_cases h1 : 1114111 < r
  · have hf : Hid (fixN r = 65533) := Lib.hid (by unfold fixN; rw [if_neg]; rw [isB_iff]; omega)
    have h0' : 0 ≤ r := by omega
    clear h0
    go_enter Tryz.func59, Tryz.ntmps59
    go_wp2
    go_ret
    exact ⟨ret_i32 (by rw [← Hv.out, hf.out]), rfl⟩
  have h0' : 0 ≤ r := by omega
  have h1' : r ≤ 1114111 := by omega
  clear h0 h1
  by_cases h2 : r < 55296
  · have hf : Hid (fixN r = r) := Lib.hid (by unfold fixN; rw [if_pos]; rw [isB_iff]; omega)
    go_enter Tryz.func59, Tryz.ntmps59
    go_wp2
    all_goals
      go_ret
      exact ⟨ret_i32 (by rw [← Hv.out, hf.out]), rfl⟩
  by_cases h3 : 57343 < r
  · have hf : Hid (fixN r = r) := Lib.hid (by unfold fixN; rw [if_pos]; rw [isB_iff]; omega)
    have h2' : 55296 ≤ r := by omega
    clear h2
    go_enter Tryz.func59, Tryz.ntmps59
    go_wp2
    all_goals
      go_ret
      exact ⟨ret_i32 (by rw [← Hv.out, hf.out]), rfl⟩
  · have hf : Hid (fixN r = 65533) := Lib.hid (by unfold fixN; rw [if_neg]; rw [isB_iff]; omega)
    have h2' : 55296 ≤ r := by omega
    have h3' : r ≤ 57343 := by omega
    clear h2 h3
    go_enter Tryz.func59, Tryz.ntmps59
    go_wp2
    all_goals
      go_ret
      exact ⟨ret_i32 (by rw [← Hv.out, hf.out]), rfl⟩
end Go.Proofs.YtlfhgmclnapmjaaGreatDoor
