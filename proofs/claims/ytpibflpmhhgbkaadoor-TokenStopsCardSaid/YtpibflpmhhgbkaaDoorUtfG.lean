/- Chapter 10: the reference's Bytes. Condition: it is a rune. -/
import Derived.Test.YtpibflpmhhgbkaaDoorUtfF
import Derived.Laws.BytesArg
namespace Go.Proofs.YtpibflpmhhgbkaaDoor
open Go.RowKit Go.Utf Go.Lib

theorem convR1 (w : World) (x0 : Int) :
    (convert 44 9 (.slice (some ⟨w.heap.size, 0, none⟩) 1 1)).run Tryd.prog (w.alloc (.cells #[.int .u8 x0] 5)) = .ok (.string (strOfNums [x0])) (w.alloc (.cells #[.int .u8 x0] 5)) := by
  refine run_convert_bytes_arg (P := Tryd.prog) _ 44 5 Tryd.underlying44 Tryd.underlying5 w.heap.size 0 1 1 [x0] rfl (fun i hi => ?_) 9 Tryd.underlying9
  have hb : (w.alloc (.cells #[.int .u8 x0] 5)).heap[w.heap.size]? = some (.cells #[.int .u8 x0] 5 (0, 0)) := heap_alloc_new w _
  simp only [World.cell?, hb, Nat.zero_add]
  have : i = 0 := by omega
  rcases this with rfl <;> rfl
theorem convR2 (w : World) (x0 x1 : Int) :
    (convert 44 9 (.slice (some ⟨w.heap.size, 0, none⟩) 2 2)).run Tryd.prog (w.alloc (.cells #[.int .u8 x0, .int .u8 x1] 5)) = .ok (.string (strOfNums [x0, x1])) (w.alloc (.cells #[.int .u8 x0, .int .u8 x1] 5)) := by
  refine run_convert_bytes_arg (P := Tryd.prog) _ 44 5 Tryd.underlying44 Tryd.underlying5 w.heap.size 0 2 2 [x0, x1] rfl (fun i hi => ?_) 9 Tryd.underlying9
  have hb : (w.alloc (.cells #[.int .u8 x0, .int .u8 x1] 5)).heap[w.heap.size]? = some (.cells #[.int .u8 x0, .int .u8 x1] 5 (0, 0)) := heap_alloc_new w _
  simp only [World.cell?, hb, Nat.zero_add]
  have : i = 0 ∨ i = 1 := by omega
  rcases this with rfl | rfl <;> rfl
theorem convR3 (w : World) (x0 x1 x2 : Int) :
    (convert 44 9 (.slice (some ⟨w.heap.size, 0, none⟩) 3 3)).run Tryd.prog (w.alloc (.cells #[.int .u8 x0, .int .u8 x1, .int .u8 x2] 5)) = .ok (.string (strOfNums [x0, x1, x2])) (w.alloc (.cells #[.int .u8 x0, .int .u8 x1, .int .u8 x2] 5)) := by
  refine run_convert_bytes_arg (P := Tryd.prog) _ 44 5 Tryd.underlying44 Tryd.underlying5 w.heap.size 0 3 3 [x0, x1, x2] rfl (fun i hi => ?_) 9 Tryd.underlying9
  have hb : (w.alloc (.cells #[.int .u8 x0, .int .u8 x1, .int .u8 x2] 5)).heap[w.heap.size]? = some (.cells #[.int .u8 x0, .int .u8 x1, .int .u8 x2] 5 (0, 0)) := heap_alloc_new w _
  simp only [World.cell?, hb, Nat.zero_add]
  have : i = 0 ∨ i = 1 ∨ i = 2 := by omega
  rcases this with rfl | rfl | rfl <;> rfl
theorem convR4 (w : World) (x0 x1 x2 x3 : Int) :
    (convert 44 9 (.slice (some ⟨w.heap.size, 0, none⟩) 4 4)).run Tryd.prog (w.alloc (.cells #[.int .u8 x0, .int .u8 x1, .int .u8 x2, .int .u8 x3] 5)) = .ok (.string (strOfNums [x0, x1, x2, x3])) (w.alloc (.cells #[.int .u8 x0, .int .u8 x1, .int .u8 x2, .int .u8 x3] 5)) := by
  refine run_convert_bytes_arg (P := Tryd.prog) _ 44 5 Tryd.underlying44 Tryd.underlying5 w.heap.size 0 4 4 [x0, x1, x2, x3] rfl (fun i hi => ?_) 9 Tryd.underlying9
  have hb : (w.alloc (.cells #[.int .u8 x0, .int .u8 x1, .int .u8 x2, .int .u8 x3] 5)).heap[w.heap.size]? = some (.cells #[.int .u8 x0, .int .u8 x1, .int .u8 x2, .int .u8 x3] 5 (0, 0)) := heap_alloc_new w _
  simp only [World.cell?, hb, Nat.zero_add]
  have : i = 0 ∨ i = 1 ∨ i = 2 ∨ i = 3 := by omega
  rcases this with rfl | rfl | rfl | rfl <;> rfl
theorem str_nums (l : List Int) : strOfNums l = B (l.map fun x => x.toNat.toUInt8) := rfl
theorem runeT_nums {v : Int} {l : List Int} (h : encodeRuneZ v = l) : strOfNums l = B (runeT v) := by
  rw [str_nums]; unfold runeT encodeRune; rw [h]
set_option maxRecDepth 100000 in
set_option maxHeartbeats 1000000 in
theorem bytes_one (v : Int) (h0 : 0 ≤ v) (h1 : v ≤ 127) (w : World) : Calls Tryd.prog 34 #[.int .i64 v] w fun e w' => e = .returned (.string (B (runeT v))) ∧ Below w.heap.size w w' := by
  have hconv := convR1 w
  have Hr := Lib.hid (runeT_nums (encodeRuneZ_one h0 h1))
  go_enter Tryd.func34, Tryd.ntmps34
  go_wp2
  go_ret
  exact ⟨ret_str Hr.out, (Below.refl _ _).alloc (Nat.le_refl _) _⟩
set_option maxRecDepth 100000 in
set_option maxHeartbeats 1000000 in
theorem bytes_two (v : Int) (h0 : 128 ≤ v) (h1 : v ≤ 2047) (w : World) : Calls Tryd.prog 34 #[.int .i64 v] w fun e w' => e = .returned (.string (B (runeT v))) ∧ Below w.heap.size w w' := by
  have hconv := convR2 w
  have Hr := Lib.hid (runeT_nums (encodeRuneZ_two h0 h1))
  go_enter Tryd.func34, Tryd.ntmps34
  go_wp2
  go_ret
  exact ⟨ret_str Hr.out, (Below.refl _ _).alloc (Nat.le_refl _) _⟩
set_option maxRecDepth 100000 in
set_option maxHeartbeats 1000000 in
theorem bytes_three (v : Int) (h0 : 2048 ≤ v) (h1 : v ≤ 65535) (h : v < 55296 ∨ 57343 < v) (w : World) : Calls Tryd.prog 34 #[.int .i64 v] w fun e w' => e = .returned (.string (B (runeT v))) ∧ Below w.heap.size w w' := by
  have hconv := convR3 w
  have Hr := Lib.hid (runeT_nums (encodeRuneZ_three (r := v) (by omega)))
  clear h
  go_enter Tryd.func34, Tryd.ntmps34
  go_wp2
  go_ret
  exact ⟨ret_str Hr.out, (Below.refl _ _).alloc (Nat.le_refl _) _⟩
set_option maxRecDepth 100000 in
set_option maxHeartbeats 1000000 in
theorem bytes_four (v : Int) (h0 : 65536 ≤ v) (h1 : v ≤ 1114111) (w : World) : Calls Tryd.prog 34 #[.int .i64 v] w fun e w' => e = .returned (.string (B (runeT v))) ∧ Below w.heap.size w w' := by
  have hconv := convR4 w
  have Hr := Lib.hid (runeT_nums (encodeRuneZ_four h0 h1))
  go_enter Tryd.func34, Tryd.ntmps34
  go_wp2
  go_ret
  exact ⟨ret_str Hr.out, (Below.refl _ _).alloc (Nat.le_refl _) _⟩
theorem ref10_Bytes (v : Int) (h : isB v = true) (w : World) : Calls Tryd.prog 34 #[.int .i64 v] w fun e w' => e = .returned (.string (B (runeT v))) ∧ Below w.heap.size w w' := by
  rcases isB_cases h with ⟨h0, h1⟩ | ⟨h0, h1⟩ | h | ⟨h0, h1⟩
  · exact bytes_one v h0 h1 w
  · exact bytes_two v h0 h1 w
  · exact bytes_three v (by omega) (by omega) (by omega) w
  · exact bytes_four v h0 h1 w
end Go.Proofs.YtpibflpmhhgbkaaDoor
